import Derived.Test.YtpoffnlnhdbpmaaGreatDoorT7
set_option linter.all false
set_option linter.unusedVariables false
set_option linter.unusedSimpArgs false
set_option linter.unusedSectionVars false
section
set_option maxRecDepth 100000
namespace Go.Proofs.Ytpoffnlnhdbpmaa
open Go Lv Go.Proofs Go.RowKit Go.Shelf
variable [Lk]
abbrev bl (s:ByteArray):List UInt8:=s.data.toList
abbrev bs (l:List UInt8):ByteArray:=⟨l.toArray⟩
omit [Lk] in
theorem jq {a b:ByteArray} (h:bl a=bl b):a=b:=by
 obtain ⟨⟨a⟩⟩:=a
 obtain ⟨⟨b⟩⟩:=b
 simp only [bl] at h
 rw [h]
omit [Lk] in
theorem ee (a b:ByteArray):bl (a++b)=bl a++bl b:=by
 simp [bl,ByteArray.data_append]
omit [Lk] in
theorem iH (s:ByteArray) (i j:Nat):bl (s.extract i j)=((bl s).drop i).take (j-i):=by
 simp [bl,ByteArray.data_extract]
omit [Lk] in
theorem ze (d:Nat) (hd:d<10):(⟨#[48,49,50,51,52,53,54,55,56,57]⟩:ByteArray).extract d (d+1)=bs [UInt8.ofNat (48+d)]:=by
 have:d=0∨d=1∨d=2∨d=3∨d=4∨d=5∨d=6∨d=7∨d=8∨d=9:=by omega
 rcases this with rfl|rfl|rfl|rfl|rfl|rfl|rfl|rfl|rfl|rfl<;>decide
theorem tq (n:Nat) (h:n<18446744073709551616):dT.F ((n:Int),())=some (bs (Lib.decDigits n),()):=by
 refine Tot.is ?_
 rw [dT.eq];unfold dT.B
 refine aY (fun s=>∃k:Nat,s.1=(k:Int)∧k≤9∧s.2.1.size≤19∧Lib.decDigits n=Lib.decDigits k++bl s.2.1) ?_ ?_
 ·refine dk (fun s=>s.1.toNat) (fun s=>∃k m:Nat,s.1=(k:Int)∧m+s.2.1.size=19∧k<10^(m+1)∧Lib.decDigits n=Lib.decDigits k++bl s.2.1) ⟨n,19,rfl,rfl,by simp;omega,by simp⟩ ?_
  rintro ⟨_,t,_⟩ ⟨k,m,rfl,h2,h3,h4⟩
  dsimp only at h2 h4 ⊢
  have e1:Int.tdiv (k:Int) 10=((k/10:Nat):Int):=by rw [Int.tdiv_eq_ediv_of_nonneg (by omega)];omega
  have e2:Int.tmod (k:Int) 10=((k%10:Nat):Int):=by rw [Int.tmod_eq_emod_of_nonneg (by omega)];omega
  refine ac.2 ⟨fun h=>?_,fun h=>aH.2 ⟨k,rfl,by simp at h;omega,by dsimp only;omega,h4⟩⟩
  simp at h
  cases m with
  |zero=>omega
  |succ m=>
   have:10^(m+1+1)=10*10^(m+1):=by rw [Nat.pow_succ];omega
   have hb:10^(m+1)≤10^19:=Nat.pow_le_pow_right (by omega) (by omega)
   have hb2:(10:Nat)^19=10000000000000000000:=by decide
   have w1:IntKind.u64.wrap (((k%10:Nat):Int)+1)=((k%10+1:Nat):Int):=by rw [ou];omega
   have w2:IntKind.u64.wrap ((k/10:Nat):Int)=((k/10:Nat):Int):=by rw [ou];omega
   simp only [e1,e2,w1,w2,Int.toNat_natCast]
   rw [ze _ (Nat.mod_lt k (by omega))]
   refine ah.2 ⟨by decide,ah.2 ⟨by decide,ah.2 ⟨by simp;omega,ah.2 ⟨by simp;omega,ah.2 ⟨by decide,av.2 ⟨⟨k/10,m,rfl,by simp;omega,by omega,?_⟩,by dsimp only;omega⟩⟩⟩⟩⟩⟩
   rw [h4,ee,Lib.decDigits,dif_neg (by omega)]
   simp [bl]
 ·rintro ⟨_,t,_⟩ ⟨k,rfl,h1,h2,h3⟩
  dsimp only at h2 h3 ⊢
  have w1:IntKind.u64.wrap ((k:Int)+1)=((k+1:Nat):Int):=by rw [ou];omega
  simp only [w1,Int.toNat_natCast]
  rw [ze _ (by omega)]
  refine ah.2 ⟨by simp;omega,ah.2 ⟨by simp;omega,ai.2 (jq ?_)⟩⟩
  rw [ee]
  show _=Lib.decDigits n
  rw [h3,Lib.decDigits,dif_pos (by omega)]
theorem jm (n:Int) (h:I64 n):de.F (n,())=some (dB n,()):=by
 obtain ⟨h1,h2⟩:=h
 refine Tot.is ?_
 rw [de.eq];unfold de.B
 have hl:=Lib.itoa_length_le n h1 h2
 unfold dB
 unfold Lib.itoa at hl ⊢
 refine ac.2 ⟨fun h=>?_,fun h=>?_⟩
 ·simp at h
  rw [if_pos h] at hl
  have e:IntKind.u64.wrap (IntKind.u64.wrap (wr (0-wr (n+1)))+1)=(n.natAbs:Int):=by
   rw [ou,ou,eo,eo];omega
  simp only [e]
  rw [tq _ (by omega),Qa,if_pos h]
  refine ah.2 ⟨?_,ai.2 (jq ?_)⟩
  ·simp only [yA,bsz,List.size_toArray] at hl ⊢
   simp at hl ⊢
   omega
  ·rw [ee]
   rfl
 ·simp at h
  have e:IntKind.u64.wrap n=(n.toNat:Int):=by rw [ou];omega
  simp only [e]
  rw [tq _ (by omega),Qa,if_neg (by omega)]
  exact ai.2 rfl
omit [Lk] in
theorem pB : ∀ (l : List UInt8) (acc v : Nat) (c : UInt8),Lib.parseUint10 acc l = .ok v → 48 ≤ c.toNat → c.toNat ≤ 57 → v * 10 + (c.toNat - 48) < 18446744073709551616 → Lib.parseUint10 acc (l ++ [c]) = .ok (v * 10 + (c.toNat - 48))
  | [],acc,v,c,h,h1,h2,h3=>by
    simp only [Lib.parseUint10,List.nil_append] at h ⊢
    cases h
    rw [if_pos ⟨h1,h2⟩,if_neg (by omega),if_neg (by omega)]
  | d :: r,acc,v,c,h,h1,h2,h3 => by
    simp only [Lib.parseUint10,List.cons_append] at h ⊢
    split at h
    · rename_i hd
      rw [if_pos hd]
      split at h
      · cases h
      · rename_i ha
        rw [if_neg ha]
        split at h
        · cases h
        · rename_i hb
          rw [if_neg hb]
          exact pB r _ v c h h1 h2 h3
    · cases h
omit [Lk] in
theorem mq (d:Nat) (h:d<10):(UInt8.ofNat (48+d)).toNat=48+d:=by
 simp
 omega
omit [Lk] in
theorem nV (n:Nat) (h:n<18446744073709551616):Lib.parseUint10 0 (Lib.decDigits n)=.ok n:=by
 induction n using Nat.strongRecOn with
 |ind n ih=>
  rw [Lib.decDigits]
  by_cases h9:n<10
  ·rw [dif_pos h9]
   simp only [Lib.parseUint10,mq n h9]
   rw [if_pos ⟨by omega,by omega⟩,if_neg (by omega),if_neg (by omega)]
   congr 1
   omega
  ·rw [dif_neg h9]
   have e:=mq (n%10) (Nat.mod_lt n (by omega))
   have:=pB _ 0 _ (UInt8.ofNat (48+n%10)) (ih (n/10) (by omega) (by omega)) (by omega) (by omega) (by omega)
   rw [this,e]
   congr 1
   omega
omit [Lk] in
theorem rp (n:Nat):∃c r,Lib.decDigits n=c::r∧48≤c.toNat∧c.toNat≤57:=by
 induction n using Nat.strongRecOn with
 |ind n ih=>
  rw [Lib.decDigits]
  by_cases h9:n<10
  ·rw [dif_pos h9]
   exact ⟨_,[],rfl,by rw [mq n h9];omega,by rw [mq n h9];omega⟩
  ·rw [dif_neg h9]
   obtain ⟨c,r,e,h1,h2⟩:=ih (n/10) (by omega)
   exact ⟨c,r++_,by rw [e];rfl,h1,h2⟩
omit [Lk] in
theorem xg (n:Int) (h:I64 n):Lib.atoiAll (Lib.itoa n)=.ok n:=by
 obtain ⟨h1,h2⟩:=h
 unfold Lib.itoa
 by_cases hn:n<0
 ·rw [if_pos hn]
  obtain ⟨c,r,e,c1,c2⟩:=rp n.natAbs
  have hp:Lib.parseMag (Lib.decDigits n.natAbs)=.ok n.natAbs:=by
   unfold Lib.parseMag
   rw [if_neg (by rw [e];simp)]
   exact nV _ (by omega)
  unfold Lib.atoiAll
  have e45:(45:UInt8).toNat=45:=rfl
  simp only [e45,or_true,if_true,hp,true_and,not_true,false_and,if_false]
  rw [if_neg (by omega)]
  congr 1
  omega
 ·rw [if_neg hn]
  obtain ⟨c,r,e,c1,c2⟩:=rp n.toNat
  have hp:Lib.parseMag (Lib.decDigits n.toNat)=.ok n.toNat:=by
   unfold Lib.parseMag
   rw [if_neg (by rw [e];simp)]
   exact nV _ (by omega)
  rw [e] at hp ⊢
  unfold Lib.atoiAll
  have n1:¬c.toNat=43:=by omega
  have n2:¬c.toNat=45:=by omega
  simp only [n1,n2,or_self,if_false,hp,not_false_eq_true,true_and,false_and]
  rw [if_neg (by omega)]
  congr 1
  omega
omit [Lk] in
theorem Tot.eq {A:Type} {x:Option A} {a:A} (h:Tot x fun y=>y=a):x=some a:=by
 obtain ⟨y,h1,h2⟩:=h
 rw [h1,h2]
def rn (p:Int→Bool) (s:ByteArray) (i:Nat):Nat:=if h:i<s.size∧p (bM s i)=true then rn p s (i+1) else i
termination_by s.size-i
decreasing_by omega
omit [Lk] in
theorem mA {p:Int→Bool} {s:ByteArray} {i:Nat} (h:i<s.size) (hp:p (bM s i)=true):rn p s i=rn p s (i+1):=by
 rw [rn,dif_pos ⟨h,hp⟩]
omit [Lk] in
theorem lW {p:Int→Bool} {s:ByteArray} {i:Nat} (h:¬(i<s.size∧p (bM s i)=true)):rn p s i=i:=by
 rw [rn,dif_neg h]
omit [Lk] in
theorem oj (p:Int→Bool) (s:ByteArray) (i:Nat) (hi:i≤s.size):i≤rn p s i∧rn p s i≤s.size:=by
 rw [rn]
 split
 ·have:=oj p s (i+1) (by omega)
  omega
 ·omega
termination_by s.size-i
decreasing_by omega
def cls (c:Int):Int:=if 97≤c∧c≤122 then 1 else if 48≤c∧c≤57 then 2 else if c=95 then 3 else if c=39 then 4 else if c=32 then 5 else 0
theorem of_s (c:Int):gJ.F (c,())=some (cls c,()):=by
 refine Tot.is ?_
 rw [gJ.eq];unfold gJ.B cls
 refine aY (fun x=>x.1=decide (97≤c∧c≤122)) (by simp;omega) fun x hx=>ac.2 ⟨fun e=>?_,fun e=>?_⟩
 ·rw [hx] at e
  rw [if_pos (of_decide_eq_true e)]
  exact ai.2 rfl
 ·rw [hx] at e
  rw [if_neg (of_decide_eq_false e)]
  refine aY (fun x=>x.1=decide (48≤c∧c≤57)) (by simp;omega) fun x hx=>ac.2 ⟨fun e=>?_,fun e=>?_⟩
  ·rw [hx] at e
   rw [if_pos (of_decide_eq_true e)]
   exact ai.2 rfl
  ·rw [hx] at e
   rw [if_neg (of_decide_eq_false e)]
   simp
   refine ⟨fun h=>by simp [h],fun h=>⟨fun h1=>by simp [h1],fun h1=>⟨fun h2=>by simp [h2],fun h2=>by simp [h,h1,h2]⟩⟩⟩
abbrev isc (l:List Int) (c:Int):Bool:=l.any (· ==cls c)
omit [Lk] in
theorem tt {α:Type} {l:List α} {f:α→Bool} {k:Nat} (h:k<l.length):(l.take (k+1)).any f=((l.take k).any f||f l[k]):=by
 rw [←List.take_append_getElem h,List.any_append]
 simp
theorem tu (l : List Int) (s : ByteArray) (i : Nat) (hl : l.length ≤ 10) (h : i ≤ s.size) (hs : s.size ≤ 100000) :
    bT.F (l,s,(i:Int),())=some (s.extract i (rn (isc l) s i),s,((rn (isc l) s i:Nat):Int),()):=by
  refine Tot.eq ?_
  rw [bT.eq];unfold bT.B
  refine aY (fun x=>x=(s,((rn (isc l) s i:Nat):Int),())) ?_ ?_
  · refine dk (fun x=>s.size-x.2.1.toNat) (fun x=>x.1=s∧∃j:Nat,x.2.1=(j:Int)∧i≤j∧j≤s.size∧rn (isc l) s i=rn (isc l) s j) ⟨rfl,i,rfl,by omega,h,rfl⟩ ?_
    rintro ⟨z,_,_⟩ ⟨e,j,rfl,j1,j2,j3⟩
    dsimp only at e ⊢
    subst e
    refine ac.2 ⟨fun h5=>?_,fun h5=>aH.2 ?_⟩
    · simp at h5
      have hw:wr ((j:Int)+1)=((j+1:Nat):Int):=by rw [bB (by omega) (by omega)];omega
      simp only [Int.toNat_natCast,of_s,Qa]
      refine ah.2 ⟨by simp;omega,aY (fun x=>x.1=isc l (bM z j)) ?_ fun x hx=>ac.2 ⟨fun e=>aH.2 ?_,fun e=>?_⟩⟩
      · refine dk (fun x=>l.length-x.2.1.toNat) (fun x=>∃k:Nat,x.2.1=(k:Int)∧k≤l.length∧x.1=(l.take k).any (· ==cls (bM z j))) ⟨0,rfl,by omega,by simp⟩ ?_
        rintro ⟨b,_,_⟩ ⟨k,rfl,k1,k2⟩
        dsimp only at k2 ⊢
        subst k2
        refine ac.2 ⟨fun h6=>?_,fun h6=>?_⟩
        · simp at h6
          have hw:wr ((k:Int)+1)=((k+1:Nat):Int):=by rw [bB (by omega) (by omega)];omega
          simp only [cD h6,hw]
          refine ah.2 ⟨by simp;omega,ac.2 ⟨fun e=>av.2 ⟨⟨k+1,rfl,h6,?_⟩,by dsimp only;omega⟩,fun e=>av.2 ⟨⟨k+1,rfl,h6,?_⟩,by dsimp only;omega⟩⟩⟩
          · dsimp only
            rw [tt h6,e,Bool.true_or]
          · dsimp only
            rw [tt h6,e,Bool.false_or]
        · simp at h6
          refine aH.2 ?_
          dsimp only
          rw [List.take_of_length_le (by omega)]
      · rw [hx] at e
        have e:isc l (bM z j)=false:=by simpa using e
        have:rn (isc l) z j=j:=lW fun h=>by rw [h.2] at e;cases e
        rw [j3,this]
      · rw [hx] at e
        have e:isc l (bM z j)=true:=by simpa using e
        simp only [av,hw]
        exact ⟨⟨trivial,j+1,rfl,by omega,by omega,by rw [j3];exact mA h5 e⟩,by omega⟩
    · simp at h5
      have:rn (isc l) z j=j:=lW fun h=>by omega
      rw [j3,this]
  · rintro _ rfl
    have:=oj (isc l) s i h
    simp only [Int.toNat_natCast]
    exact ah.2 ⟨by simp;omega,ai.2 rfl⟩
theorem lq (s:ByteArray) (i d:Nat) (h:i+d<s.size) (hs:s.size≤100000) (hd:d≤1):aZ.F ((d:Int),s,(i:Int),())=some (bM s (i+d),s,(i:Int),()):=by
 obtain ⟨b,hb,_,_,h3⟩:=yQ (d:Int) s (i:Int) (by omega) (by omega) hs (by omega)
 rw [hb,h3 (by omega)]
 have:((i:Int)+(d:Int)).toNat=i+d:=by omega
 rw [this]
theorem CP (l:List Int) (h:∀x∈l,0≤x∧x<256):bn.F (l,())=some (bytesOf l,()):=by
 rw [bn.eq]
 show (if (∀x∈l,0≤x∧x<256) then some (bytesOf l,()) else none)=_
 rw [if_pos h]
theorem tw (x:Int) (l:List Int) (h:l.length≤1000000):bg.F (x,l,())=some (true,l++ [x],()):=by
 rw [bg.eq];unfold bg.B
 rw [aW.eq]
 show (ck (Nat.ble (l.length+ [x].length) 140737488355328)<|some (true,(l++ [x]),()))=_
 have:Nat.ble (l.length+ [x].length) 140737488355328=true:=by simp;omega
 rw [this]
 rfl
theorem BT (s:ByteArray):dz.F ((3:Int),(0:Int),s,())=some (decide (s.size≤1000),()):=by
 rw [dz.eq];unfold dz.B
 simp
 omega
omit [Lk] in
theorem nl (l:List Int) (x:Int):bytesOf (l++ [x])=bytesOf l++bs [UInt8.ofNat x.toNat]:=by
 apply jq
 rw [ee]
 simp [bytesOf,bl,bs]
omit [Lk] in
theorem vV (s:ByteArray) (j:Nat) (h:j<s.size):s.extract j (j+1)=bs [UInt8.ofNat (bM s j).toNat]:=by
 apply jq
 rw [iH]
 have hl:j<(bl s).length:=by rw [show (bl s).length=s.size from Array.length_toList];exact h
 rw [List.drop_eq_getElem_cons hl,show j+1-j=1 by omega]
 simp only [List.take_succ_cons,List.take_zero,bM]
 rw [List.getD_eq_getElem?_getD,List.getElem?_eq_getElem hl]
 simp
abbrev e0:ByteArray:=⟨#[]⟩
theorem zf (s:ByteArray) (h:0<s.size) (h2:s.size<1000000000000000):Tot (dD.F (s,())) fun y=>y.2.1=true→I64 y.1∧s=dB y.1:=by
 rw [dD.eq];unfold dD.B
 refine ah.2 ⟨by simp;omega,?_⟩
 refine aY (fun x=>I64 x.2.2.1) ?_ ?_
 ·refine dk (fun x=>s.size-x.2.1.toNat) (fun x=>0≤x.2.1∧x.2.1≤(s.size:Int)∧I64 x.2.2.2.1) (by simp [I64]) ?_
  rintro ⟨ok,i,a,b,t,_⟩ ⟨i1,i2,i3⟩
  simp at i1 i2 i3
  refine ac.2 ⟨fun h5=>?_,fun h5=>by simp;exact i3⟩
  simp at h5
  refine aY (fun x=>I64 x.2.2.1) ?_ (by rintro ⟨o,c,d,u,_⟩ h6;simp at h6;simp [eo];omega)
  simp
  refine ⟨⟨i1,h5⟩,fun _=>i3,fun _=>⟨⟨i1,h5⟩,(BM _ _ _ _ _ _).mono fun y _=>(yM _ _ _ _ _ _).mono fun z hz=>⟨fun _=>(BN _ _ _ _ _ _).mono fun u hu=>?_,fun _=>?_⟩⟩⟩
  ·exact ⟨fun _=>⟨fun _=>hu,fun _=>hu⟩,fun _=>hu⟩
  ·exact ⟨fun _=>⟨fun _=>hz,fun _=>hz⟩,fun _=>hz⟩
 ·rintro ⟨ok,a,b,t,_⟩ h3
  simp at h3
  refine ac.2 ⟨fun _=>?_,fun _=>ai.2 fun h=>by cases h⟩
  rw [jm _ h3,Qa]
  exact ai.2 fun h=>⟨h3,(eW.1 h).symm⟩
theorem CQ (s : ByteArray) (i : Nat) (h : i < s.size) (hs : s.size ≤ 20000) : Tot (fF.F (s,(i : Int),())) fun y => ∃ z,ce.F (s,(i : Int),()) = some z ∧ z.2.2.2.2.2.1 = y.2.2.1 ∧ (y.2.2.1 = true → (i < y.2.1 ∧ y.2.1 ≤ (s.size : Int) ∧ y.1.size ≤ 1000) ∧ z = ((1 : Int),e0,(3 : Int),(0 : Int),y.1,true,s,y.2.1,())) := by
  obtain ⟨body,k,hF,b1,b2,b3,b4⟩:∃(body:ByteArray×Int×(List Int)×Unit→Option ((ByteArray×Int×(List Int)×Unit)⊕((ByteArray×Int×(List Int)×Unit)⊕(Int×ByteArray×Int×Int×ByteArray×Bool×ByteArray×Int×Unit)))) (k:ByteArray×Int×(List Int)×Unit→Option (Int×ByteArray×Int×Int×ByteArray×Bool×ByteArray×Int×Unit)),
      ce.F (s,(i:Int),())=jn (aN body (s,((i+1:Nat):Int),[],())) k∧
      (∀(j:Nat) (l:List Int),j<s.size→bM s j≠39→l.length≤j→body (s,(j:Int),l,())=some (.inl (s,((j+1:Nat):Int),l++ [bM s j],())))∧
      (∀(j:Nat) (l:List Int),j+1<s.size→bM s j=39→bM s (j+1)=39→l.length≤j→body (s,(j:Int),l,())=some (.inl (s,((j+2:Nat):Int),l++ [39],())))∧
      (∀(j:Nat) (l:List Int),j<s.size→bM s j=39→(j+1<s.size→bM s (j+1)≠39)→(∀x∈l,0≤x∧x<256)→body (s,(j:Int),l,())=some (.inr (.inr ((1:Int),e0,(3:Int),(0:Int),bytesOf l,decide ((bytesOf l).size≤1000),s,((j+1:Nat):Int),()))))∧
      (∀(j:Nat) (l:List Int),s.size≤j→∃u,body (s,(j:Int),l,())=some (.inr (.inl u))∧∃z,k u=some z∧z.2.2.2.2.2.1=false):=by
    rw [ce.eq];unfold ce.B
    have hw:wr ((i:Int)+1)=((i+1:Nat):Int):=by rw [bB (by omega) (by omega)];omega
    refine ⟨_,_,by dsimp only;rw [hw],?_,?_,?_,?_⟩
    · intro j l hj hb hl
      have hj':wr ((j:Int)+1)=((j+1:Nat):Int):=by rw [bB (by omega) (by omega)];omega
      have d1:decide ((j:Int)<(s.size:Int))=true:=by simp;omega
      have hp:aZ.F ((0:Int),s,(j:Int),())=some (bM s j,s,(j:Int),()):=lq s j 0 (by omega) (by omega) (by omega)
      have h39:(bM s j==(39:Int))=false:=by simpa using hb
      dsimp only
      simp only [d1,Qc,hp,Qa,h39,Qb,tw _ l (show l.length≤1000000 by omega),jn,il,hj']
    · intro j l hj hb hb2 hl
      have hj':wr ((j:Int)+1)=((j+1:Nat):Int):=by rw [bB (by omega) (by omega)];omega
      have hj2:wr (((j+1:Nat):Int)+1)=((j+2:Nat):Int):=by rw [bB (by omega) (by omega)];omega
      have d1:decide ((j:Int)<(s.size:Int))=true:=by simp;omega
      have d2:decide (((j+1:Nat):Int)≥(s.size:Int))=false:=by simp;omega
      have hp:aZ.F ((0:Int),s,(j:Int),())=some (bM s j,s,(j:Int),()):=lq s j 0 (by omega) (by omega) (by omega)
      have hp2:aZ.F ((0:Int),s,((j+1:Nat):Int),())=some (bM s (j+1),s,((j+1:Nat):Int),()):=lq s (j+1) 0 (by omega) (by omega) (by omega)
      have h39:((39:Int)==(39:Int))=true:=rfl
      have n39:((39:Int) !=(39:Int))=false:=rfl
      dsimp only
      simp only [d1,Qc,hp,hb,Qa,h39,hj',hp2,hb2,n39,Qb,d2,tw _ l (show l.length≤1000000 by omega),jn,il,hj2]
    · intro j l hj hb hb2 hl
      have hj':wr ((j:Int)+1)=((j+1:Nat):Int):=by rw [bB (by omega) (by omega)];omega
      have d1:decide ((j:Int)<(s.size:Int))=true:=by simp;omega
      have hp:aZ.F ((0:Int),s,(j:Int),())=some (bM s j,s,(j:Int),()):=lq s j 0 (by omega) (by omega) (by omega)
      have h39:((39:Int)==(39:Int))=true:=rfl
      obtain ⟨d,hd,_,_,h3⟩:=yQ 0 s ((j+1:Nat):Int) (by omega) (by omega) (by omega) (by omega)
      dsimp only
      simp only [d1,Qc,hp,hb,Qa,h39,hj',hd,CP l hl,BT]
      cases e:(d !=(39:Int)) with
      |true=>rfl
      |false=>
        have d2:decide (((j+1:Nat):Int)≥(s.size:Int))=true:=by
          by_cases h:j+1<s.size
          · have h3:=h3 (by omega)
            rw [show (((j+1:Nat):Int)+0).toNat=j+1 by omega] at h3
            rw [h3] at e
            exact absurd (by simpa using e) (hb2 h)
          · simp;omega
        simp only [d2,Qc,Qb]
        rfl
    · intro j l hj
      have d1:decide ((j:Int)<(s.size:Int))=false:=by simp;omega
      dsimp only
      simp only [d1,Qb]
      exact ⟨_,rfl,_,rfl,rfl⟩
  rw [fF.eq];unfold fF.B
  have hw:wr ((i:Int)+1)=((i+1:Nat):Int):=by rw [bB (by omega) (by omega)];omega
  simp only [hw]
  refine dk (fun x=>s.size+1-x.2.1.toNat) (fun x=>∃(j:Nat) (l:List Int),x.2.1=(j:Int)∧i<j∧j≤s.size+1∧x.1=bytesOf l∧(∀c∈l,0≤c∧c<256)∧l.length≤j∧ce.F (s,(i:Int),())=jn (aN body (s,(j:Int),l,())) k) ⟨i+1,[],rfl,by omega,by omega,rfl,by simp,by simp,hF⟩ ?_
  rintro ⟨_,_,_⟩ ⟨j,l,rfl,j1,j2,rfl,j3,j4,j5⟩
  dsimp only
  have hsz:(bytesOf l).size=l.length:=by simp [bytesOf]
  have mem1:∀x,0≤x∧x<256→∀c∈l++ [x],0≤c∧c<256:=fun x hx c hc=>by
    rcases List.mem_append.1 hc with h|h
    · exact j3 c h
    · rw [List.mem_singleton.1 h];exact hx
  refine ac.2 ⟨fun h5=>?_,fun h5=>aH.2 ?_⟩
  rotate_left 1
  · simp at h5
    obtain ⟨u,hu,z,hz,h6⟩:=b4 j l h5
    exact ⟨z,by rw [j5,dC,hu];exact hz,h6,fun h=>by cases h⟩
  simp at h5
  have hj':wr ((j:Int)+1)=((j+1:Nat):Int):=by rw [bB (by omega) (by omega)];omega
  have hj2:wr ((j:Int)+2)=((j+2:Nat):Int):=by rw [bB (by omega) (by omega)];omega
  have hb:=vL s j
  simp only [Int.toNat_natCast,hj',hj2]
  refine ah.2 ⟨by simp;omega,ac.2 ⟨fun e=>?_,fun e=>?_⟩⟩
  · have e:bM s j≠39:=by simpa using e
    refine ah.2 ⟨by simp;omega,ah.2 ⟨by simp [hsz];omega,av.2 ⟨⟨j+1,l++ [bM s j],rfl,by omega,by omega,?_,mem1 _ hb,by simp;omega,?_⟩,by dsimp only;omega⟩⟩⟩
    · rw [nl,vV s j h5]
    · rw [j5,dC,b1 j l h5 e j4]
  · have e:bM s j=39:=by simpa using e
    have fin:(j+1<s.size→bM s (j+1)≠39)→∃z,ce.F (s,(i:Int),())=some z∧z.2.2.2.2.2.1=decide (((bytesOf l).size:Int)≤1000)∧(decide (((bytesOf l).size:Int)≤1000)=true→((i:Int)<((j+1:Nat):Int)∧((j+1:Nat):Int)≤(s.size:Int)∧(bytesOf l).size≤1000)∧z=((1:Int),e0,(3:Int),(0:Int),bytesOf l,true,s,((j+1:Nat):Int),())):=fun hn=>by
      have hd:decide ((bytesOf l).size≤1000)=decide (((bytesOf l).size:Int)≤1000):=by simp only [decide_eq_decide];omega
      refine ⟨((1:Int),e0,(3:Int),(0:Int),bytesOf l,decide ((bytesOf l).size≤1000),s,((j+1:Nat):Int),()),by rw [j5,dC,b3 j l h5 e hn j3];rfl,hd,fun h=>⟨⟨by omega,by omega,by simp at h;omega⟩,?_⟩⟩
      rw [hd,h]
    refine ac.2 ⟨fun h6=>?_,fun h6=>aH.2 (fin fun h=>by simp at h6;omega)⟩
    simp at h6
    refine ah.2 ⟨by simp;omega,ac.2 ⟨fun e2=>?_,fun e2=>aH.2 (fin fun _=>by simpa using e2)⟩⟩
    have e2:bM s (j+1)=39:=by simpa using e2
    refine ah.2 ⟨by simp [hsz];omega,av.2 ⟨⟨j+2,l++ [39],rfl,by omega,by omega,?_,mem1 _ (by omega),by simp;omega,?_⟩,by dsimp only;omega⟩⟩
    · rw [nl]
      rfl
    · rw [j5,dC,b2 j l (by omega) e e2 j4]
omit [Lk] in
theorem tx : ∀ (l : List UInt8) (acc m : Nat),Lib.parseUint10 acc l = .ok m → acc ≤ m
  | [],acc,m,h=>by simp only [Lib.parseUint10] at h;cases h;omega
  | c :: r,acc,m,h => by
    simp only [Lib.parseUint10] at h
    split at h
    · split at h
      · cases h
      · split at h
        · cases h
        · have:=tx r _ m h
          omega
    · cases h
omit [Lk] in
theorem uK {c:UInt8} {r:List UInt8} {acc m:Nat} (h:Lib.parseUint10 acc (c::r)=.ok m):48≤c.toNat∧c.toNat≤57∧Lib.parseUint10 (acc*10+(c.toNat-48)) r=.ok m:=by
 simp only [Lib.parseUint10] at h
 split at h
 ·rename_i hd
  split at h
  ·cases h
  ·split at h
   ·cases h
   ·exact ⟨hd.1,hd.2,h⟩
 ·cases h
theorem mul_s (v:Int) (h:-922337203685477580≤v∧v≤922337203685477580):fB.F (2,v,e0,2,10,e0,())=some (2,v*10,e0,true,()):=by
 rw [fB.eq];unfold fB.B
 have hw:wr (v*10)=v*10:=bB (by omega) (by omega)
 have t1:Int.tdiv (v*10) 10=v:=Int.mul_tdiv_cancel v (by omega)
 have t2:Int.tmod (v*10) 10=0:=Int.mul_tmod_left v 10
 have hv:wr v=v:=bB (by omega) (by omega)
 refine Tot.eq ?_
 simp [jC,hw,t1,t2,hv]
 grind
theorem add_s (a b:Int) (h:I64 (a+b)) (hb:0≤b) (ha:I64 a):fC.F (2,a,e0,2,b,e0,())=some (2,a+b,e0,true,()):=by
 rw [fC.eq];unfold fC.B
 obtain ⟨h1,h2⟩:=h
 obtain ⟨h3,h4⟩:=ha
 have hw:wr (a+b)=a+b:=bB (by omega) (by omega)
 refine Tot.eq ?_
 simp [jC,hw,eo]
 grind
theorem sub_s (a b:Int) (h:I64 (a-b)) (hb:0≤b) (ha:I64 a):fD.F (2,a,e0,2,b,e0,())=some (2,a-b,e0,true,()):=by
 rw [fD.eq];unfold fD.B
 obtain ⟨h1,h2⟩:=h
 obtain ⟨h3,h4⟩:=ha
 have hw:wr (a-b)=a-b:=bB (by omega) (by omega)
 refine Tot.eq ?_
 simp [jC,hw,eo]
 grind
omit [Lk] in
theorem js {s:ByteArray} {i:Nat} {c:UInt8} {r:List UInt8} (h:(bl s).drop i=c::r):bM s i=c.toNat∧i<s.size∧(bl s).drop (i+1)=r:=by
 have hl:(bl s).length=s.size:=Array.length_toList
 have hi:i<(bl s).length:=by
  have:=congrArg List.length h
  simp at this
  omega
 rw [List.drop_eq_getElem_cons hi] at h
 injection h with h1 h2
 refine ⟨?_,by omega,h2⟩
 unfold bM
 rw [List.getD_eq_getElem?_getD,List.getElem?_eq_getElem hi]
 simp [h1]
omit [Lk] in
theorem u8w (n:Int) (h:0≤n) (h2:n<256):IntKind.u8.wrap n=n:=by
 unfold IntKind.wrap
 simp [IntKind.signed,IntKind.bits]
 omega
theorem zg (n : Int) (h : I64 n) : dD.F (dB n,()) = some (n,true,()) := by
  obtain ⟨h1,h2⟩:=h
  have hl:=Lib.itoa_length_le n h1 h2
  have hb:bl (dB n)=Lib.itoa n:=rfl
  have hsz:(dB n).size=(Lib.itoa n).length:=rfl
  obtain ⟨c0,r0,e0',c1,c2⟩:=rp n.natAbs
  have hd:Lib.decDigits n.toNat=Lib.decDigits n.natAbs∨n<0:=by
    by_cases hn:n<0
    · exact .inr hn
    · exact .inl (by rw [show n.toNat=n.natAbs by omega])
  have hf:(n<0∧Lib.itoa n=45::Lib.decDigits n.natAbs)∨(0≤n∧Lib.itoa n=Lib.decDigits n.natAbs):=by
    unfold Lib.itoa
    by_cases hn:n<0
    · exact .inl ⟨hn,by rw [if_pos hn]⟩
    · exact .inr ⟨by omega,by rw [if_neg hn];exact hd.resolve_right hn⟩
  have hp:=nV n.natAbs (by omega)
  have h0:0<(dB n).size:=by
    rw [hsz]
    rcases hf with ⟨_,e⟩|⟨_,e⟩<;>rw [e]<;>simp [e0']
  have hb0:(bM (dB n) 0==(45:Int))=decide (n<0):=by
    rcases hf with ⟨hn,e⟩|⟨hn,e⟩
    · have:=(js (s:=dB n) (i:=0) (c:=45) (r:=Lib.decDigits n.natAbs) (by rw [List.drop_zero,hb,e])).1
      rw [this]
      simp [hn]
    · have:=(js (s:=dB n) (i:=0) (c:=c0) (r:=r0) (by rw [List.drop_zero,hb,e,e0'])).1
      rw [this]
      have:¬((c0.toNat:Int)=45):=by omega
      rw [decide_eq_false (show ¬n<0 by omega)]
      exact beq_eq_false_iff_ne.2 this
  refine Tot.eq ?_
  rw [dD.eq];unfold dD.B
  refine ah.2 ⟨by simp;omega,?_⟩
  dsimp only
  simp only [hb0]
  refine aY (fun x=>x=(true,2,n,e0,())) ?_ ?_
  · refine dk (fun x=>(dB n).size-x.2.1.toNat) (fun x=>∃(i acc:Nat),x=(true,(i:Int),2,(if n<0 then -(acc:Int) else (acc:Int)),e0,())∧i≤(dB n).size∧(n<0∧i=0∧acc=0∨Lib.parseUint10 acc ((bl (dB n)).drop i)=.ok n.natAbs))
      ⟨0,0,by simp,by omega,?_⟩ ?_
    · rcases hf with ⟨hn,e⟩|⟨hn,e⟩
      · exact .inl ⟨hn,rfl,rfl⟩
      · exact .inr (by rw [hb,e,List.drop_zero];exact hp)
    rintro _ ⟨i,acc,rfl,i1,i2⟩
    dsimp only
    have hw:wr ((i:Int)+1)=((i+1:Nat):Int):=by rw [bB (by omega) (by omega)];omega
    refine ac.2 ⟨fun h5=>?_,fun h5=>aH.2 ?_⟩
    · simp at h5
      rcases i2 with ⟨hn,rfl,rfl⟩|i2
      · have e:=hf.resolve_right (fun h=>by omega)
        have hby:=(js (s:=dB n) (i:=0) (c:=45) (r:=Lib.decDigits n.natAbs) (by rw [List.drop_zero,hb,e.2]))
        refine aY (fun x=>x=(true,2,0,e0,())) ?_ ?_
        · refine ah.2 ⟨by simp;omega,ac.2 ⟨fun _=>by simp [hn],fun e=>?_⟩⟩
          simp [hby.1] at e
        · rintro _ rfl
          dsimp only
          simp only [av,hw]
          refine ⟨⟨1,0,by simp [hn],by omega,.inr ?_⟩,by simp;omega⟩
          rw [hby.2.2]
          exact hp
      · obtain ⟨c,r,e⟩:∃c r,(bl (dB n)).drop i=c::r:=by
          have hl:i<(bl (dB n)).length:=by rw [show (bl (dB n)).length=(dB n).size from Array.length_toList];exact h5
          exact ⟨_,_,List.drop_eq_getElem_cons hl⟩
        rw [e] at i2
        obtain ⟨p1,p2,p3⟩:=uK i2
        have pm:=tx _ _ _ p3
        obtain ⟨b1,_,b3⟩:=js e
        have hu:wr (IntKind.u8.wrap (bM (dB n) i-48))=((c.toNat-48:Nat):Int):=by
          rw [b1,u8w _ (by omega) (by omega),bB (by omega) (by omega)]
          omega
        have hne:((bM (dB n) i)==(45:Int))=false:=by
          rw [b1]
          have:¬((c.toNat:Int)=45):=by omega
          simp [this]
        refine aY (fun x=>x=(true,2,(if n<0 then -((acc*10+(c.toNat-48):Nat):Int) else ((acc*10+(c.toNat-48):Nat):Int)),e0,())) ?_ ?_
        · refine ah.2 ⟨by simp;omega,?_⟩
          simp only [Int.toNat_natCast,hne,Qb]
          refine ah.2 ⟨by simp;omega,?_⟩
          simp only [hu,sW,Qa]
          have hm:fB.F (2,(if n<0 then -(acc:Int) else (acc:Int)),e0,2,10,e0,())=_:=mul_s _ (by split<;>omega)
          simp only [hm,Qa]
          by_cases hn:n<0
          · simp only [hn,if_true,decide_true,Qc]
            refine af.2 ((yM _ _ _ _ _ _).mono fun y _=>?_)
            have hs:fD.F (2,-(acc:Int)*10,e0,2,((c.toNat-48:Nat):Int),e0,())=_:=sub_s _ _ (by constructor<;>omega) (by omega) (by constructor<;>omega)
            simp only [hs,Qa,Qc]
            refine av.2 ?_
            dsimp only
            congr 3
            omega
          · simp only [hn,if_false,decide_false,Qb]
            have hs:fC.F (2,(acc:Int)*10,e0,2,((c.toNat-48:Nat):Int),e0,())=_:=add_s _ _ (by constructor<;>omega) (by omega) (by constructor<;>omega)
            simp only [hs,Qa,Qc]
            refine av.2 ?_
            dsimp only
            congr 3
        · rintro _ rfl
          dsimp only
          simp only [av,hw]
          exact ⟨⟨i+1,_,rfl,by omega,.inr (by rw [b3];exact p3)⟩,by simp;omega⟩
    · simp at h5
      have:i=(dB n).size:=by omega
      subst this
      rcases i2 with ⟨_,e,_⟩|i2
      · omega
      · rw [List.drop_of_length_le (by rw [show (bl (dB n)).length=(dB n).size from Array.length_toList];omega)] at i2
        simp only [Lib.parseUint10] at i2
        cases i2
        dsimp only
        congr 3
        split<;>omega
  · rintro _ rfl
    dsimp only
    simp only [Qc,jm n ⟨h1,h2⟩,Qa]
    exact ai.2 (by simp [sq])
theorem zh (s:ByteArray) (h:0<s.size) (h2:s.size<1000000000000000):Tot (dD.F (s,())) fun y=>(y.2.1=true→I64 y.1∧s=dB y.1)∧(y.2.1=false→∀n,I64 n→s≠dB n):=by
 by_cases hx:∃n,I64 n∧s=dB n
 ·obtain ⟨n,hn,rfl⟩:=hx
  rw [zg n hn]
  exact ai.2 ⟨fun _=>⟨hn,rfl⟩,fun h=>by cases h⟩
 ·exact (zf s h h2).mono fun y hy=>⟨hy,fun _ n hn e=>hx ⟨n,hn,e⟩⟩
omit [Lk] in
theorem nf {b:Bool} (h:(!b)=false):b=true:=by cases b<;>simp_all
omit [Lk] in
theorem nt {b:Bool} (h:(!b)=true):b=false:=by cases b<;>simp_all
theorem rq (c:Int):eI.F (c,())=some (isc [1,2,3] c,()):=by
 rw [eI.eq];unfold eI.B
 refine Tot.eq ?_
 simp [cls]
 grind
omit [Lk] in
theorem tz (c:Int):(decide (97≤c)&&decide (c≤122))=isc [1] c:=by
 simp [cls]
 grind
omit [Lk] in
theorem A6 (c:Int):(decide (48≤c)&&decide (c≤57))=isc [2] c:=by
 simp [cls]
 grind
theorem ru {R:Type} (p:Int→Bool) (s:ByteArray) {body:Int×Unit→Option ((Int×Unit)⊕((Int×Unit)⊕R))}
 (h1:∀j:Nat,j<s.size→p (bM s j)=true→body ((j:Int),())=il (((j+1:Nat):Int),())) (h2:∀j:Nat,j≤s.size→¬(j<s.size∧p (bM s j)=true)→body ((j:Int),())=ir (.inl ((j:Int),())))
 (i:Nat) (hi:i≤s.size):aN body ((i:Int),())=some (.inl (((rn p s i:Nat):Int),())):=by
 rw [dC]
 by_cases h:i<s.size∧p (bM s i)=true
 ·rw [h1 i h.1 h.2]
  show aN body (((i+1:Nat):Int),())=_
  rw [mA h.1 h.2,ru p s h1 h2 (i+1) (by omega)]
 ·rw [h2 i hi h,lW h]
  rfl
termination_by s.size-i
def Wd' (w:ByteArray):Bool:=decide (1≤w.size)&&(decide (w.size≤30)&&(isc [1] (bM w 0)&&decide (rn (isc [1,2,3]) w 0=w.size)))
omit [Lk] in
theorem uL {p:Int→Bool} {s:ByteArray} {i:Nat} (hi:i≤s.size):rn p s i=s.size↔∀j,i≤j→j<s.size→p (bM s j)=true:=by
 by_cases h:i<s.size∧p (bM s i)=true
 ·rw [mA h.1 h.2,uL (by omega)]
  refine ⟨fun g j h1 h2=>?_,fun g j h1 h2=>g j (by omega) h2⟩
  by_cases e:j=i
  ·rw [e];exact h.2
  ·exact g j (by omega) h2
 ·rw [lW h]
  refine ⟨fun g j h1 h2=>by omega,fun g=>?_⟩
  by_cases e:i<s.size
  ·exact absurd ⟨e,g i (by omega) e⟩ h
  ·omega
termination_by s.size-i
theorem vW (w : ByteArray) (h : w.size < 1000000000000000) : fm.F (w,()) = some (Wd' w,()) := by
  refine Tot.eq ?_
  rw [fm.eq];unfold fm.B
  refine aY (fun _=>rn (isc [1,2,3]) w 0=w.size) ?_ ?_
  · refine dk (fun x=>w.size-x.1.toNat) (fun x=>∃j:Nat,x.1=(j:Int)∧j≤w.size∧rn (isc [1,2,3]) w 0=rn (isc [1,2,3]) w j) ⟨0,rfl,by omega,rfl⟩ ?_
    rintro ⟨_,_⟩ ⟨j,rfl,j1,j2⟩
    dsimp only
    refine ac.2 ⟨fun h5=>?_,fun h5=>aH.2 ?_⟩
    · simp at h5
      have hw:wr ((j:Int)+1)=((j+1:Nat):Int):=by rw [bB (by omega) (by omega)];omega
      simp only [Int.toNat_natCast,rq,Qa,hw]
      refine ah.2 ⟨by simp;omega,ac.2 ⟨fun e=>aH.2 ?_,fun e=>av.2 ⟨⟨j+1,rfl,by omega,by rw [j2,mA h5 (nf e)]⟩,by dsimp only;omega⟩⟩⟩
      dsimp only
      have e:isc [1,2,3] (bM w j)=false:=nt e
      have:¬rn (isc [1,2,3]) w 0=w.size:=by
        rw [j2,lW (fun h=>by rw [h.2] at e;cases e)]
        omega
      simp [Wd',this]
    · simp at h5
      dsimp only
      rw [j2,lW (fun h=>by omega)]
      omega
  · rintro _ h1
    refine ac.2 ⟨fun a=>ac.2 ⟨fun b=>ah.2 ⟨by simp at a ⊢;omega,?_⟩,fun b=>ai.2 ?_⟩,fun a=>ai.2 ?_⟩
    · simp only [px,Qa,tz]
      refine ai.2 ?_
      have a:1≤w.size:=by simp at a;omega
      have b:w.size≤30:=by simp at b;omega
      simp [Wd',h1,a,b]
    · have b:¬w.size≤30:=by simp at b;omega
      simp [Wd',b]
    · have a:¬1≤w.size:=by simp at a;omega
      simp only [Wd',a,decide_false,Bool.false_and]
omit [Lk] in
theorem zi (w:ByteArray):sq w e0=decide (w.size=0):=by
 obtain ⟨⟨l⟩⟩:=w
 cases l with
 |nil=>
  rw [eW.2 rfl]
  rfl
 |cons a r=>
  have:¬sq ⟨⟨a::r⟩⟩ e0=true:=fun h=>by
   have:=congrArg ByteArray.size (eW.1 h)
   simp at this
  simp at this
  simp [this]
omit [Lk] in
theorem zj (w:ByteArray) (k:Nat) (hk:k≤w.size):sq (w.extract 0 k) w=decide (k=w.size):=by
 by_cases h:k=w.size
 ·subst h
  simp only [ByteArray.extract_zero_size,decide_true]
  exact eW.2 rfl
 ·have:¬sq (w.extract 0 k) w=true:=fun g=>by
   have:=congrArg ByteArray.size (eW.1 g)
   simp at this
   omega
  simp at this
  simp [this,h]
theorem A7 (w : ByteArray) (h : w.size ≤ 100000) : ft.F (w,()) = some (Wd' w,()) := by
  refine Tot.eq ?_
  rw [ft.eq];unfold ft.B
  have hr:bT.F ([1,2,3],w,(0:Int),())=_:=tu [1,2,3] w 0 (by simp) (by omega) h
  have hb:=(oj (isc [1,2,3]) w 0 (by omega)).2
  refine aY (fun _=>1≤w.size∧w.size≤30∧isc [1] (bM w 0)=true) ?_ ?_
  · show Tot (bif sq w e0 then _ else _) _
    rw [zi]
    refine ac.2 ⟨fun a=>aH.2 ?_,fun a=>ac.2 ⟨fun b=>aH.2 ?_,fun b=>ah.2 ⟨by have a:=of_decide_eq_false a;simp;omega,?_⟩⟩⟩
    · have a:¬1≤w.size:=by have a:=of_decide_eq_true a;omega
      simp only [Wd',a,decide_false,Bool.false_and]
    · have b:¬w.size≤30:=by simp at b;omega
      simp [Wd',b]
    · simp only [of_s,Qa]
      have a:1≤w.size:=by have a:=of_decide_eq_false a;omega
      have b:w.size≤30:=by simp at b;omega
      refine ac.2 ⟨fun c=>aH.2 ?_,fun c=>av.2 ⟨a,b,?_⟩⟩
      · have c:¬(1=cls (bM w 0)):=by simp at c;omega
        simp [Wd',isc,c]
      · simp at c
        simp [isc,c]
  · rintro _ ⟨a,b,c⟩
    simp only [hr,Qa,zj w _ hb]
    exact ai.2 (by simp [Wd',a,b,c])
theorem CR (l:List ByteArray) (s:ByteArray) (h:l.length≤1000):Tot (aO.F (l,s,())) fun y=>decide (y.1≥0)=l.any (sq s):=by
 rw [aO.eq];unfold aO.B
 refine jd (l:=l) (fun x=>sq s x=false) (fun i hi=>?_) fun hq=>?_
 ·have hw:wr ((i:Int)+1)=((i+1:Nat):Int):=by rw [bB (by omega) (by omega)];omega
  simp only [cD hi,hw]
  refine ac.2 ⟨fun _=>ah.2 ⟨by simp;omega,ac.2 ⟨fun e=>aH.2 ?_,fun e=>av.2 ⟨by simp,e⟩⟩⟩,fun h=>by simp at h;omega⟩
  have:l.any (sq s)=true:=List.any_eq_true.2 ⟨_,List.getElem_mem hi,e⟩
  rw [this]
  simp
 ·refine ac.2 ⟨fun h=>by simp at h,fun _=>aH.2 ?_⟩
  have:l.any (sq s)=false:=by
   rw [List.any_eq_false]
   exact fun x hx=>by simp [hq x hx]
  rw [this]
  rfl
omit [Lk] in
theorem A8 (a b:ByteArray):sq a b=sq b a:=by
 by_cases h:a=b
 ·rw [h]
 ·have h1:¬sq a b=true:=fun e=>h (eW.1 e)
  have h2:¬sq b a=true:=fun e=>h (eW.1 e).symm
  simp at h1 h2
  rw [h1,h2]
theorem CS (s : ByteArray) (h : s.size ≤ 100000) : ∃ b,fG.F (s,()) = some (b,()) ∧ fu.F (s,()) = some (b,()) := by
  rw [fG.eq,fu.eq];unfold fG.B fu.B
  dsimp only
  simp only [vW s (by omega),A7 s h,Qa]
  cases hw:Wd' s with
  |false=>exact ⟨false,rfl,rfl⟩
  |true=>
    simp only [Qc]
    rw [dG.eq,dR.eq];unfold dG.B dR.B
    simp only [Qa]
    generalize hl:([(⟨#[116,97,98,108,101]⟩:ByteArray),(⟨#[99,104,101,99,107]⟩:ByteArray),(⟨#[118,105,101,119]⟩:ByteArray),(⟨#[102,114,111,109]⟩:ByteArray),(⟨#[106,111,105,110]⟩:ByteArray),(⟨#[111,110]⟩:ByteArray),(⟨#[119,104,101,114,101]⟩:ByteArray),(⟨#[112,105,99,107]⟩:ByteArray),(⟨#[103,114,111,117,112]⟩:ByteArray),(⟨#[98,111,111,108]⟩:ByteArray),(⟨#[105,110,116]⟩:ByteArray),(⟨#[116,101,120,116]⟩:ByteArray),(⟨#[110,117,108,108]⟩:ByteArray),(⟨#[117,110,105,113,117,101]⟩:ByteArray),(⟨#[114,101,102]⟩:ByteArray),(⟨#[114,101,115,116,114,105,99,116]⟩:ByteArray),(⟨#[99,97,115,99,97,100,101]⟩:ByteArray),(⟨#[115,101,116,110,117,108,108]⟩:ByteArray),(⟨#[99,111,117,110,116]⟩:ByteArray),(⟨#[115,117,109]⟩:ByteArray),(⟨#[109,105,110]⟩:ByteArray),(⟨#[109,97,120]⟩:ByteArray),(⟨#[116,114,117,101]⟩:ByteArray),(⟨#[102,97,108,115,101]⟩:ByteArray),(⟨#[97,110,100]⟩:ByteArray),(⟨#[111,114]⟩:ByteArray),(⟨#[110,111,116]⟩:ByteArray)]:List ByteArray)=l
    have hn:l.length≤1000:=by rw [←hl];simp
    rw [aJ.eq];unfold aJ.B
    obtain ⟨y,hy,hz⟩:=CR l s hn
    simp only [hy,Qa,hz]
    refine ⟨!l.any (sq s),?_,rfl⟩
    refine Tot.eq (af.2 (Tot.mono (P:=fun y=>y.1=l.any (sq s)) ?_ fun y hy=>ai.2 (by rw [hy])))
    refine jd (l:=l) (fun x=>sq s x=false) (fun i hi=>?_) fun hq=>?_
    · have hw:wr ((i:Int)+1)=((i+1:Nat):Int):=by rw [bB (by omega) (by omega)];omega
      have hg:List.getD l i (⟨#[]⟩:ByteArray)=l[i]:=by rw [List.getD_eq_getElem?_getD,List.getElem?_eq_getElem hi];rfl
      simp only [Int.toNat_natCast,hg,hw,A8 _ s]
      refine ac.2 ⟨fun _=>ah.2 ⟨by simp;omega,ac.2 ⟨fun e=>aH.2 ?_,fun e=>av.2 ⟨by simp,e⟩⟩⟩,fun h=>by simp at h;omega⟩
      have:l.any (sq s)=true:=List.any_eq_true.2 ⟨_,List.getElem_mem hi,e⟩
      rw [this]
    · refine ac.2 ⟨fun h=>by simp at h,fun _=>aH.2 ?_⟩
      have:l.any (sq s)=false:=by
        rw [List.any_eq_false]
        exact fun x hx=>by simp [hq x hx]
      rw [this]
omit [Lk] in
theorem mL (s:ByteArray) (i j k:Nat) (h:i+k<j) (hj:j≤s.size):bM (s.extract i j) k=bM s (i+k):=by
 have hl:(bl s).length=s.size:=Array.length_toList
 unfold bM
 have:(s.extract i j).data.toList=((bl s).drop i).take (j-i):=iH s i j
 rw [this]
 simp only [List.getD_eq_getElem?_getD]
 rw [List.getElem?_take_of_lt (by omega),List.getElem?_drop]
omit [Lk] in
theorem zk {p:Int→Bool} {s:ByteArray} {i:Nat} {k:Nat} (h1:i≤k) (h2:k<rn p s i):p (bM s k)=true:=by
 by_cases h:i<s.size∧p (bM s i)=true
 ·by_cases e:k=i
  ·rw [e];exact h.2
  ·exact zk (i:=i+1) (by omega) (by rw [←mA h.1 h.2];exact h2)
 ·rw [lW h] at h2
  omega
termination_by s.size-i
decreasing_by omega
theorem zm:(List.range 256).all (fun c=>decide (fP.F ((c:Int),())=some (Lib.contains [40,41,91,93,44,61,60,43,45,42,63] [UInt8.ofNat c],())))=true:=by
 rename_i i
 rcases i with ⟨⟨⟩⟩
 kernel_rfl
theorem CT (s:ByteArray) (j:Nat) (h:j<s.size):∃b,fP.F (bM s j,())=some (b,())∧strings_Contains.F ((⟨#[40,41,91,93,44,61,60,43,45,42,63]⟩:ByteArray),s.extract j (j+1),())=some (b,()):=by
 obtain ⟨b1,b2⟩:=vL s j
 have ha:=List.all_eq_true.1 zm (bM s j).toNat (List.mem_range.2 (by omega))
 rw [show (((bM s j).toNat:Nat):Int)=bM s j by omega] at ha
 refine ⟨_,of_decide_eq_true ha,?_⟩
 rw [strings_Contains.eq,vV s j h]
 rfl
theorem BU (s:ByteArray) (i:Nat) (h:i<s.size) (hc:isc [1] (bM s i)=true):Wd' (s.extract i (rn (isc [1,2,3]) s i))=decide ((s.extract i (rn (isc [1,2,3]) s i)).size≤30):=by
 have hin:isc [1,2,3] (bM s i)=true:=by simp [isc] at hc ⊢;exact .inl hc
 have hb:=oj (isc [1,2,3]) s (i+1) (by omega)
 rw [←mA h hin] at hb
 have hsz:(s.extract i (rn (isc [1,2,3]) s i)).size=rn (isc [1,2,3]) s i-i:=by rw [ky];omega
 have h0:bM (s.extract i (rn (isc [1,2,3]) s i)) 0=bM s i:=mL s i _ 0 (by omega) (by omega)
 have ha:rn (isc [1,2,3]) (s.extract i (rn (isc [1,2,3]) s i)) 0=(s.extract i (rn (isc [1,2,3]) s i)).size:=by
  rw [uL (by omega)]
  intro k _ hk
  rw [mL s i _ k (by omega) (by omega)]
  exact zk (i:=i) (by omega) (by omega)
 unfold Wd'
 rw [h0,hc,ha]
 have:1≤(s.extract i (rn (isc [1,2,3]) s i)).size:=by omega
 simp only [this,decide_true,Bool.true_and,Bool.and_true]
theorem A9 (s:ByteArray) (i:Nat) (h:i<s.size) (hs:s.size≤20000):cC.F (s,(i:Int),())=some ((0:Int),s.extract i (rn (isc [1,2,3]) s i),(0:Int),(0:Int),e0,decide ((s.extract i (rn (isc [1,2,3]) s i)).size≤30),s,((rn (isc [1,2,3]) s i:Nat):Int),()):=by
 rw [cC.eq];unfold cC.B
 dsimp only
 simp only [tu [1,2,3] s i (by simp) (by omega) (by omega),Qa]
 have hd:decide (((s.extract i (rn (isc [1,2,3]) s i)).size:Int)≤(30:Int))=decide ((s.extract i (rn (isc [1,2,3]) s i)).size≤30):=decide_eq_decide.2 (by omega)
 rw [hd]
abbrev nE (s:ByteArray) (i:Nat):Nat:=rn (isc [2]) s (i+1)
omit [Lk] in
theorem xh (s:ByteArray) (i j:Nat) (h:i<j) (hj:j≤s.size) (hb:bM s i=45):(⟨#[45]⟩:ByteArray)++s.extract (i+1) j=s.extract i j:=by
 apply jq
 rw [ee,iH,iH]
 have hl:(bl s).length=s.size:=Array.length_toList
 have hi:i<(bl s).length:=by omega
 rw [List.drop_eq_getElem_cons hi,show j-i=(j-(i+1))+1 by omega,List.take_succ_cons]
 have:(bl s)[i]=45:=by
  unfold bM at hb
  rw [List.getD_eq_getElem?_getD,List.getElem?_eq_getElem hi] at hb
  have:((bl s)[i]).toNat=45:=by
   have hb:((((bl s)[i]).toNat:Nat):Int)=45:=hb
   omega
  exact UInt8.toNat_inj.1 this
 rw [this]
 rfl
theorem CU (w:ByteArray) (h:w.size≤1000000):c7.F (w,())=some ((iA w).1,(iA w).2,()):=by
 rw [c7.eq]
 show (if w.size≤281474976710656 then some ((iA w).1,(iA w).2,()) else none)=_
 rw [if_pos (by omega)]
theorem CV (n:Int) (h:I64 n):strconv_Itoa.F (n,())=some (dB n,()):=by
 rw [strconv_Itoa.eq]
 show (if -9223372036854775808≤n∧n≤9223372036854775807 then some (dB n,()) else none)=_
 rw [if_pos h]
theorem zn {B:Type} (w:ByteArray) (h:w.size≤1000000) (f:_→Option B):(c7.F (w,())).bind f=f ((iA w).1,(iA w).2,()):=by rw [CU w h];rfl
theorem ol {B:Type} (n:Int) (h:I64 n) (f:_→Option B):(strconv_Itoa.F (n,())).bind f=f (dB n,()):=by rw [CV n h];rfl
omit [Lk] in
theorem mM (n:Int) (h:I64 n):iA (dB n)=(n,true):=by
 unfold iA
 have:Lib.atoiAll (dB n).data.toList=.ok n:=xg n h
 rw [this]
theorem vX {w:ByteArray} (h:(iA w).2=true):I64 (iA w).1:=by
 unfold iA at h ⊢
 split at h
 ·rename_i v hv
  exact AO hv
 ·cases h
 ·cases h
theorem CW (s : ByteArray) (i : Nat) (h : i < s.size) (hs : s.size ≤ 20000) (hc : isc [2] (bM s i) = true ∨ bM s i = 45) : ∃ z,cl.F (s,(i : Int),()) = some z ∧ (∀ n,I64 n → s.extract i (nE s i) = dB n → z = ((1 : Int),e0,(2 : Int),n,e0,true,s,((nE s i : Nat) : Int),())) ∧ ((∀ n,I64 n → s.extract i (nE s i) ≠ dB n) → z.2.2.2.2.2.1 = false) := by
  have hb:=oj (isc [2]) s (i+1) (by omega)
  rw [cl.eq];unfold cl.B
  dsimp only
  have hw:wr ((i:Int)+1)=((i+1:Nat):Int):=by rw [bB (by omega) (by omega)];omega
  have hp:aZ.F ((0:Int),s,(i:Int),())=some (bM s i,s,(i:Int),()):=lq s i 0 (by omega) (by omega) (by omega)
  simp only [hp,Qa,hw]
  have key:∃(sg:ByteArray) (k:Nat),(bif bM s i==(45:Int) then il (R:=Int×ByteArray×Int×Int×ByteArray×Bool×ByteArray×Int×Unit) ((⟨#[45]⟩:ByteArray),s,((i+1:Nat):Int),()) else il ((⟨#[]⟩:ByteArray),s,(i:Int),()))=il (sg,s,(k:Int),())∧k≤i+1∧rn (isc [2]) s k=nE s i∧sg++s.extract k (nE s i)=s.extract i (nE s i)∧sg.size≤1:=by
    by_cases e:bM s i=45
    · refine ⟨⟨#[45]⟩,i+1,by rw [beq_iff_eq.2 e];rfl,by omega,rfl,xh s i (nE s i) hb.1 hb.2 e,by simp⟩
    · refine ⟨⟨#[]⟩,i,by rw [beq_eq_false_iff_ne.2 e];rfl,by omega,?_,?_,by simp⟩
      · exact mA h (hc.resolve_right e)
      · apply jq
        rw [ee]
        rfl
  obtain ⟨sg,k,e1,e2,e3,e4,e5⟩:=key
  rw [e1]
  simp only [il,jn,Qa,tu [2] s k (by simp) (by omega) (by omega),e3,e4]
  have hsz:(s.extract i (nE s i)).size≤20000:=by rw [ky];omega
  have hca:ca sg (s.extract k (nE s i))=true:=by rw [yA,ky];omega
  rw [hca]
  rw [ck,Qc,zn _ (show (s.extract i (nE s i)).size≤1000000 by omega)]
  dsimp only
  cases ha:(iA (s.extract i (nE s i))).2 with
  |false=>
    refine ⟨_,rfl,fun n hn e=>?_,fun _=>rfl⟩
    rw [e,mM n hn] at ha
    cases ha
  |true=>
    have h64:=vX ha
    rw [Qc,ol _ h64]
    dsimp only
    refine ⟨_,rfl,fun n hn e=>?_,fun hx=>?_⟩
    · rw [e,mM n hn]
      simp [sq]
    · have:=hx _ h64
      dsimp only
      cases hq:sq (dB (iA (s.extract i (nE s i))).1) (s.extract i (nE s i)) with
      |false=>rfl
      |true=>exact absurd (eW.1 hq).symm this
omit [Lk] in
theorem rx (k c:Int):isc [k] c=(cls c==k):=by
 rw [Bool.eq_iff_iff]
 simp [isc]
 exact eq_comm
omit [Lk] in
theorem cls39 (c:Int):(cls c==4)=(c==39):=by
 rw [Bool.eq_iff_iff]
 simp [cls]
 grind
theorem zo (s:ByteArray) (i d:Nat) (h:s.size≤i+d) (hi:i<s.size) (hs:s.size≤100000) (hd:d≤1):aZ.F ((d:Int),s,(i:Int),())=some (0,s,(i:Int),()):=by
 rw [aZ.eq];unfold aZ.B
 have hw:wr ((i:Int)+(d:Int))=((i+d:Nat):Int):=by rw [bB (by omega) (by omega)];omega
 have:decide (((i+d:Nat):Int)≥(s.size:Int))=true:=by simp;omega
 dsimp only
 simp only [hw,this,Qc]
def nB (s:ByteArray) (i:Nat):Bool:=isc [2] (bM s i)||(bM s i==45&&(decide (i+1<s.size)&&isc [2] (bM s (i+1))))
theorem tokP (s : ByteArray) (i : Nat) (h : i < s.size) (hs : s.size ≤ 20000) (b : Bool) (hb : strings_Contains.F ((⟨#[40,41,91,93,44,61,60,43,45,42,63]⟩ : ByteArray),s.extract i (i + 1),()) = some (b,())) :
    ch.F (s,(i:Int),())=bif isc [1] (bM s i) then cC.F (s,(i:Int),()) else bif nB s i then cl.F (s,(i:Int),()) else bif bM s i==39 then ce.F (s,(i:Int),()) else some ((2:Int),s.extract i (i+1),(0:Int),(0:Int),e0,b,s,((i+1:Nat):Int),()):=by
  rw [ch.eq];unfold ch.B
  have eta:∀x:Option (Int×ByteArray×Int×Int×ByteArray×Bool×ByteArray×Int×Unit),(x.bind fun y=>some (y.1,y.2.1,y.2.2.1,y.2.2.2.1,y.2.2.2.2.1,y.2.2.2.2.2.1,y.2.2.2.2.2.2.1,y.2.2.2.2.2.2.2.1,()))=x:=fun x=>by cases x<;>rfl
  have hp:aZ.F ((0:Int),s,(i:Int),())=some (bM s i,s,(i:Int),()):=lq s i 0 (by omega) (by omega) (by omega)
  have hw:wr ((i:Int)+1)=((i+1:Nat):Int):=by rw [bB (by omega) (by omega)];omega
  have hw2:wr (((i+1:Nat):Int)-1)=(i:Int):=by rw [bB (by omega) (by omega)];omega
  have hsb:sb (i:Int) ((i+1:Nat):Int) s.size=true:=by simp;omega
  dsimp only
  simp only [hp,Qa,of_s,eta,rx,hw,hw2,hsb,ck,Qc,Int.toNat_natCast,hb,cls39]
  cases h1:(cls (bM s i)==1) with
  |true=>rfl
  | false =>
    simp only [Qb]
    have hk : (bif cls (bM s i) == 2 then il (R := Int × ByteArray × Int × Int × ByteArray × Bool × ByteArray × Int × Unit) (cls (bM s i) == 2,s,(i : Int),()) else bif bM s i == 45 then (aZ.F ((1 : Int),s,(i : Int),())).bind (fun y4 => il (cls y4.1 == 2,y4.2.1,y4.2.2.1,())) else il (false,s,(i : Int),())) = il (nB s i,s,(i : Int),()) := by
      unfold nB
      simp only [rx]
      cases h2:(cls (bM s i)==2) with
      |true=>rfl
      |false=>
        cases h3:(bM s i==45) with
        |false=>rfl
        |true=>
          by_cases h4:i+1<s.size
          · have hq:aZ.F ((1:Int),s,(i:Int),())=some (bM s (i+1),s,(i:Int),()):=lq s i 1 (by omega) (by omega) (by omega)
            simp [hq,h4]
          · have hq:aZ.F ((1:Int),s,(i:Int),())=some (0,s,(i:Int),()):=zo s i 1 (by omega) h (by omega) (by omega)
            simp [hq,h4,cls]
    rw [hk]
    simp only [il,jn,Qa,hw,hw2,hsb,Qc,Int.toNat_natCast,hb]
    rfl
def Mv (v:ap):Prop:=v=(0,0,⟨#[]⟩)∨v=(1,0,⟨#[]⟩)∨v=(1,1,⟨#[]⟩)∨(v.1=2∧I64 v.2.1∧v.2.2=⟨#[]⟩)∨(v.1=3∧v.2.1=0∧v.2.2.size≤1000)
def Sg (n:ak):Prop:=n.1=0∧I64 n.2.1∨n.1=1∧Mv n.2.2∨2≤n.1∧n.1≤10
def Tw (t:aX):Prop:=t.2.1.size≤20000∧(t.1=0∧Wd' t.2.1=true∨t.1=1∧Mv t.2.2∨t.1=2∧t.2.1.size=1)
theorem lex_x (s : ByteArray) : Tot (gg.F (s,())) fun y => (y.2.1.length ≤ 20000 ∧ ∀ t ∈ y.2.1,Tw t) ∧ gn.F (s,()) = some (y.1,y.2.1,()) := by
  by_cases hs:s.size≤20000
  rotate_left 1
  · have hd:decide ((s.size:Int)>(20000:Int))=true:=by simp;omega
    rw [gg.eq,gn.eq];unfold gg.B gn.B
    simp only [hd,Qc]
    exact ai.2 ⟨by simp,rfl⟩
  have hd:decide ((s.size:Int)>(20000:Int))=false:=by simp;omega
  obtain ⟨body,hF,b1,b2⟩:∃(body:(List aX)×ByteArray×Int×Unit→Option (((List aX)×ByteArray×Int×Unit)⊕(Int×(List aX)×Unit))),
      gn.F (s,())=aN body ([],s,((rn (isc [5]) s 0:Nat):Int),())∧(∀(l:List aX) (j:Nat),s.size≤j→body (l,s,(j:Int),())=some (.inr (0,l,())))∧
      (∀(l:List aX) (j:Nat) z,j<s.size→l.length≤20000→ch.F (s,(j:Int),())=some z→(z.2.2.2.2.2.1=false→body (l,s,(j:Int),())=some (.inr (60,[],())))∧∀(k:Int) (t:ByteArray) (a c:Int) (u:ByteArray) (e:Nat),e≤s.size→z=(k,t,a,c,u,true,s,(e:Int),())→body (l,s,(j:Int),())=some (.inl (l++ [(k,t,a,c,u)],s,((rn (isc [5]) s e:Nat):Int),()))):=by
    rw [gn.eq];unfold gn.B
    have hr:bT.F ([5],s,0,())=_:=tu [5] s 0 (by simp) (by omega) (by omega)
    simp only [hd,Qb,hr,Qa]
    refine ⟨_,rfl,fun l j hj=>?_,fun l j z hj hl hz=>⟨fun e=>?_,?_⟩⟩
    · have:decide ((j:Int)<(s.size:Int))=false:=by simp;omega
      dsimp only
      rw [this]
      rfl
    · have:decide ((j:Int)<(s.size:Int))=true:=by simp;omega
      dsimp only
      simp only [this,Qc,hz,Qa,e]
      rfl
    · rintro k t a c u e he rfl
      have:decide ((j:Int)<(s.size:Int))=true:=by simp;omega
      have hb:Nat.ble (l.length+ [(k,t,a,c,u)].length) 2513169434916=true:=by simp;omega
      dsimp only
      simp only [this,Qc,hz,Qa,Bool.not_true,Qb,hb,ck,tu [5] s e (by simp) he (by omega)]
      rfl
  rw [gg.eq];unfold gg.B
  simp only [hd,Qb]
  refine dk (fun x=>s.size-x.1.toNat) (fun x=>∃(i:Nat) (l:List aX),x=((i:Int),l,())∧i≤s.size∧l.length≤i∧(∀t∈l,Tw t)∧gn.F (s,())=aN body (l,s,((rn (isc [5]) s i:Nat):Int),())) ⟨0,[],rfl,by omega,by simp,by simp,hF⟩ ?_
  rintro _ ⟨i,l,rfl,i1,i2,i3,i4⟩
  dsimp only
  have hw:wr ((i:Int)+1)=((i+1:Nat):Int):=by rw [bB (by omega) (by omega)];omega
  refine ac.2 ⟨fun h5=>?_,fun h5=>aH.2 ⟨⟨by dsimp only;omega,i3⟩,?_⟩⟩
  rotate_left 1
  · simp at h5
    rw [i4,dC,b1 _ _ (by have:=(oj (isc [5]) s i i1).1;omega)]
  simp at h5
  obtain ⟨b,hs1,hs2⟩:=CT s i h5
  have hT:=tokP s i h5 hs b hs2
  simp only [hw,Int.toNat_natCast,hs1,Qa]
  refine ah.2 ⟨by simp;omega,ah.2 ⟨by simp;omega,ac.2 ⟨fun e=>?_,fun e=>?_⟩⟩⟩
  · have e:bM s i=32:=by simpa using e
    refine av.2 ⟨⟨i+1,l,rfl,by omega,by omega,i3,?_⟩,by dsimp only;omega⟩
    rw [i4,mA h5 (by rw [e];rfl)]
  have e:bM s i≠32:=by simpa using e
  have hn5:rn (isc [5]) s i=i:=lW fun g=>by
    have:=g.2
    rw [rx] at this
    simp [cls] at this
    omega
  rw [hn5] at i4
  refine aY (fun x=>∃z,ch.F (s,(i:Int),())=some z∧z.2.2.2.2.2.1=x.2.1∧(x.2.1=true→∃e:Nat,x.1=(e:Int)∧i<e∧e≤s.size∧Tw (x.2.2.1,(x.2.2.2.1,(x.2.2.2.2.1,(x.2.2.2.2.2.1,x.2.2.2.2.2.2.1))))∧z=(x.2.2.1,x.2.2.2.1,x.2.2.2.2.1,x.2.2.2.2.2.1,x.2.2.2.2.2.2.1,true,s,(e:Int),()))) ?_ ?_
  rotate_left 1
  · rintro ⟨to,ok,k,t,a,c,u,_⟩ ⟨z,hz,h6,h7⟩
    dsimp only at h6 h7 ⊢
    obtain ⟨g1,g2⟩:=b2 l i z h5 (by omega) hz
    refine ac.2 ⟨fun e=>aH.2 ⟨by simp,?_⟩,fun e=>?_⟩
    · rw [i4,dC,g1 (by rw [h6];simpa using e)]
    · obtain ⟨en,rfl,e1,e2,e3,e4⟩:=h7 (by simpa using e)
      refine ah.2 ⟨by simp;omega,av.2 ⟨⟨en,_,rfl,e2,by simp;omega,fun t ht=>?_,?_⟩,by dsimp only;omega⟩⟩
      · rcases List.mem_append.1 ht with h|h
        · exact i3 t h
        · rw [List.mem_singleton.1 h];exact e3
      · rw [i4,dC,g2 _ _ _ _ _ en e2 e4]
  simp only [px,AE,tz,A6,Qa]
  refine ac.2 ⟨fun h1=>?_,fun h1=>?_⟩
  · have hin:isc [1,2,3] (bM s i)=true:=by simp [isc] at h1 ⊢;exact .inl h1
    have hb:=oj (isc [1,2,3]) s (i+1) (by omega)
    rw [h1,Qc,A9 s i h5 hs] at hT
    rw [ru (isc [1,2,3]) s ?h1 ?h2 (i+1) (by omega),←mA h5 hin]
    case h1=>
      intro j hj hp
      have h1:decide ((j:Int)<(s.size:Int))=true:=by simp;omega
      have h2:ib (j:Int) s.size=true:=by simp;omega
      have h3:wr ((j:Int)+1)=((j+1:Nat):Int):=by rw [bB (by omega) (by omega)];omega
      dsimp only
      simp only [h1,h2,h3,Qc,ck,Int.toNat_natCast,rq,Qa,hp]
    case h2=>
      intro j hj hp
      dsimp only
      by_cases h:j<s.size
      · have h1:decide ((j:Int)<(s.size:Int))=true:=by simp;omega
        have h2:ib (j:Int) s.size=true:=by simp;omega
        have h4:isc [1,2,3] (bM s j)=false:=by
          cases g:isc [1,2,3] (bM s j) with
          |true=>exact absurd ⟨h,g⟩ hp
          |false=>rfl
        simp only [h1,h2,Qc,ck,Int.toNat_natCast,rq,Qa,h4,Qb]
      · have h1:decide ((j:Int)<(s.size:Int))=false:=by simp;omega
        simp only [h1,Qb]
    rw [←mA h5 hin] at hb
    simp only [jn,Qa,Int.toNat_natCast]
    have hsz:(s.extract i (rn (isc [1,2,3]) s i)).size≤20000:=by rw [ky];omega
    refine ah.2 ⟨by simp;omega,ah.2 ⟨by simp;omega,?_⟩⟩
    simp only [vW _ (show (s.extract i (rn (isc [1,2,3]) s i)).size<1000000000000000 by omega),Qa,BU s i h5 h1]
    refine av.2 ⟨_,hT,rfl,fun h=>⟨_,rfl,by omega,by omega,⟨hsz,.inl ⟨rfl,(BU s i h5 h1).trans h⟩⟩,?_⟩⟩
    dsimp only at h ⊢
    rw [h]
  · rw [h1,Qb] at hT
    refine aY (fun x=>x.1=nB s i) ?_ ?_
    · unfold nB
      refine ac.2 ⟨fun h2=>av.2 (by simp only [h2,Bool.true_or]),fun h2=>ac.2 ⟨fun h3=>ac.2 ⟨fun h4=>?_,fun h4=>av.2 ?_⟩,fun h3=>av.2 (by simp only [h2,h3,Bool.false_and,Bool.false_or])⟩⟩
      · have h4:i+1<s.size:=by simp at h4;omega
        refine ah.2 ⟨by simp;omega,av.2 ?_⟩
        simp only [h2,h3,h4,Bool.true_and,Bool.false_or,decide_true]
      · have h4:¬i+1<s.size:=by simp at h4;omega
        simp only [h4,decide_false,Bool.false_and,Bool.and_false,Bool.or_false,h2]
    rintro ⟨x,_⟩ hx
    dsimp only at hx ⊢
    subst hx
    have hb:i+1≤nE s i∧nE s i≤s.size:=oj (isc [2]) s (i+1) (by omega)
    refine ac.2 ⟨fun h2=>?_,fun h2=>?_⟩
    · rw [h2,Qc] at hT
      rw [ru (isc [2]) s ?h1 ?h2 (i+1) (by omega),show rn (isc [2]) s (i+1)=nE s i from rfl]
      case h1=>
        intro j hj hp
        have h1:decide ((j:Int)<(s.size:Int))=true:=by simp;omega
        have h2:ib (j:Int) s.size=true:=by simp;omega
        have h3:wr ((j:Int)+1)=((j+1:Nat):Int):=by rw [bB (by omega) (by omega)];omega
        dsimp only
        simp only [h1,h2,h3,Qc,ck,Int.toNat_natCast,hp]
      case h2=>
        intro j hj hp
        dsimp only
        by_cases h:j<s.size
        · have h1:decide ((j:Int)<(s.size:Int))=true:=by simp;omega
          have h2:ib (j:Int) s.size=true:=by simp;omega
          have h4:isc [2] (bM s j)=false:=by
            cases g:isc [2] (bM s j) with
            |true=>exact absurd ⟨h,g⟩ hp
            |false=>rfl
          simp only [h1,h2,Qc,ck,Int.toNat_natCast,h4,Qb]
        · have h1:decide ((j:Int)<(s.size:Int))=false:=by simp;omega
          simp only [h1,Qb]
      simp only [jn,Qa,Int.toNat_natCast]
      have hsz:(s.extract i (nE s i)).size=nE s i-i:=by rw [ky];omega
      obtain ⟨z,hz,z1,z2⟩:=CW s i h5 hs (by
        unfold nB at h2
        rw [Bool.or_eq_true] at h2
        rcases h2 with h2|h2
        · exact .inl h2
        · exact .inr (by simpa using (Bool.and_eq_true_iff.1 h2).1))
      rw [hz] at hT
      refine ah.2 ⟨by simp;omega,af.2 ((zh (s.extract i (nE s i)) (by omega) (by omega)).mono fun y hy=>?_)⟩
      simp only [sW,Qa]
      refine av.2 ⟨z,hT,?_,fun h=>⟨nE s i,rfl,by omega,by omega,⟨by simp,.inr (.inl ⟨rfl,.inr (.inr (.inr (.inl ⟨rfl,(hy.1 h).1,rfl⟩)))⟩)⟩,?_⟩⟩
      · dsimp only
        cases hv:y.2.1 with
        |true=>rw [z1 _ (hy.1 hv).1 (hy.1 hv).2]
        |false=>exact z2 (hy.2 hv)
      · exact z1 _ (hy.1 h).1 (hy.1 h).2
    · rw [h2,Qb] at hT
      refine ac.2 ⟨fun h3=>?_,fun h3=>?_⟩
      · rw [h3,Qc] at hT
        refine af.2 ((CQ s i h5 hs).mono fun y hy=>av.2 ?_)
        obtain ⟨z,hz,z1,z2⟩:=hy
        refine ⟨z,hT.trans hz,z1,fun h=>?_⟩
        obtain ⟨⟨g1,g2,g4⟩,g3⟩:=z2 h
        have he:((y.2.1.toNat:Nat):Int)=y.2.1:=by omega
        exact ⟨y.2.1.toNat,he.symm,by omega,by omega,⟨by simp,.inr (.inl ⟨rfl,.inr (.inr (.inr (.inr ⟨rfl,rfl,g4⟩)))⟩)⟩,by rw [he];exact g3⟩
      · rw [h3,Qb] at hT
        have hsz:(s.extract i (i+1)).size≤20000:=by rw [ky];omega
        refine av.2 ⟨_,hT,rfl,fun h=>⟨i+1,rfl,by omega,by omega,⟨hsz,.inr (.inr ⟨rfl,by rw [ky];omega⟩)⟩,?_⟩⟩
        dsimp only at h ⊢
        rw [h]
abbrev dr (L:List aX) (a:Int):List aX:=L.drop a.toNat
structure St (L:List aX) (a:Int) (ok:Bool) (G H:Prop):Prop where
 l:L.length≤20000
 t:∀t∈L,Tw t
 a0:0≤a
 a1:a≤(L.length:Int)
 g:ok=true→G
 h:ok=false→H
variable {L:List aX} {a:Int} {ok:Bool} {G H:Prop} {A:Type} {PF fail:Option A}
omit [Lk] in
theorem St.to {G' H':Prop} (s:St L a ok G H) (hg:G→G') (hh:H→H'):St L a ok G' H':=⟨s.l,s.t,s.a0,s.a1,fun e=>hg (s.g e),fun e=>hh (s.h e)⟩
omit [Lk] in
theorem St.up {a':Int} {ok':Bool} {G' H':Prop} (s:St L a ok G H) (h0:0≤a') (h1:a'≤(L.length:Int)) (hg:ok'=true→G') (hh:ok'=false→H'):St L a' ok' G' H':=⟨s.l,s.t,h0,h1,hg,hh⟩
section
variable {X S R B:Type} {body:S→Option (S⊕R)} {K:R→Option B}
noncomputable def lp (body:S→Option (S⊕R)) (K:R→Option B) (z:Option (S⊕R)):Option B:=Option.bind z fun
 | .inl s'=>Option.bind (aN body s') K
 | .inr r=>K r
omit [Lk] in
theorem tA (s:S):Option.bind (aN body s) K=lp body K (body s):=by
 rw [dC]
 unfold lp
 cases body s with
 |none=>rfl
 |some z=>cases z<;>rfl
omit [Lk] in
theorem lp_l (s:S):lp body K (il s)=Option.bind (aN body s) K:=rfl
omit [Lk] in
theorem lp_r (r:R):lp body K (ir r)=K r:=rfl
omit [Lk] in
theorem tC (x:Option X) (f:X→Option (S⊕R)):lp body K (Option.bind x f)=Option.bind x fun v=>lp body K (f v):=by
 unfold lp
 rw [Option.bind_assoc]
omit [Lk] in
theorem lp_m (x:Option R):lp body K (Option.map Sum.inr x)=Option.bind x K:=by cases x<;>rfl
end
noncomputable def jk {S R B:Type} (f:S→Option R) (K:R→Option B):S⊕R→Option B
 | .inl s=>Option.bind (f s) K
 | .inr r=>K r
omit [Lk] in
theorem jk_l {S R B:Type} (f:S→Option R) (K:R→Option B) (s:S):jk f K (.inl s)=Option.bind (f s) K:=rfl
omit [Lk] in
theorem tD {S R B:Type} (x:Option (S⊕R)) (f:S→Option R) (K:R→Option B):Option.bind (jn x f) K=Option.bind x (jk f K):=by
 cases x with
 |none=>rfl
 |some z=>cases z<;>rfl
omit [Lk] in
theorem bA {X Y Z:Type} (x:Option X) (f:X→Option Y) (g:Y→Option Z):Option.bind (Option.bind x f) g=Option.bind x fun v=>Option.bind (f v) g:=Option.bind_assoc x f g
def tk (p:ByteArray):List aX→Bool
 | []=>false
 |t::_=>(t.1 !=1)&&sq t.2.1 p
omit [Lk] in
theorem lr {L:List aX} {a:Int} (h0:0≤a) (h1:a<(L.length:Int)):dr L a=gt L a dS.z::dr L (a+1)∧gt L a dS.z∈L:=by
 have hn:a.toNat<L.length:=by omega
 have e:gt L a dS.z=L[a.toNat]:=by
  unfold gt
  rw [List.getD_eq_getElem?_getD,List.getElem?_eq_getElem hn]
  rfl
 refine ⟨?_,by rw [e];exact List.getElem_mem hn⟩
 unfold dr
 rw [List.drop_eq_getElem_cons hn,e,show (a+1).toNat=a.toNat+1 by omega]
omit [Lk] in
theorem lX {L:List aX} {a:Int} (h1:¬a<(L.length:Int)):dr L a=[]:=List.drop_of_length_le (by omega)
theorem BV (p : ByteArray) (l : List aX) (h : l.length ≤ 20000) : cJ.F ([p],l,()) = some (tk p l,l,()) := by
  rw [cJ.eq];unfold cJ.B
  dsimp only
  rw [dC]
  cases l with
  |nil=>rfl
  |cons t r=>
    have hd:decide ((0:Int)≥(((t::r).length:Nat):Int))=false:=by simp<;>omega
    have hi:ib (0:Int) (((t::r).length:Nat):Int)=true:=by simp<;>omega
    have hg:gt (t::r) (0:Int) dS.z=t:=rfl
    have hw:wr ((0:Int)+1)=1:=by decide
    simp only [List.length_singleton,show decide ((0:Int)<((1:Nat):Int))=true from rfl,show ib (0:Int) ((1:Nat):Int)=true from rfl,Qc,ck,hd,Qb,hi,hg,show gt [p] (0:Int) (⟨#[]⟩:ByteArray)=p from rfl,hw,tk]
    cases h1:(t.1==(1:Int)) with
    |true=>
      have:(t.1 !=(1:Int))=false:=by simp [bne,h1]
      simp only [Qc,this,Bool.false_and]
      rfl
    |false=>
      have:(t.1 !=(1:Int))=true:=by simp [bne,h1]
      simp only [Qb,this,Bool.true_and]
      cases h2:sq t.2.1 p with
      |false=>rfl
      |true=>
        simp only [Bool.not_true,Qb,il]
        rw [dC]
        rfl
theorem kz (p:ByteArray) (l:List aX) (h:l.length≤20000):aw.F ([p],l,())=some (tk p l,(bif tk p l then l.tail else l),()):=by
 rw [aw.eq];unfold aw.B
 dsimp only
 simp only [BV p l h,Qa]
 cases hb:tk p l with
 |false=>rfl
 |true=>
  cases l with
  |nil=>cases hb
  |cons t r=>
   have:sb (1:Int) (((t::r).length:Nat):Int) (((t::r).length:Nat):Int)=true:=by simp<;>omega
   simp only [Bool.not_true,Qb,List.length_singleton,Int.toNat_natCast,List.take_length,List.drop_one,Qc]
   rw [show sb ((1:Nat):Int) (((t::r).length:Nat):Int) (((t::r).length:Nat):Int)=true from this]
   rfl
theorem zp (p:ByteArray) (h0:0≤a):cH.F (p,L,a,ok,())=some (tk p (dr L a),L,a,ok,()):=by
 rw [cH.eq];unfold cH.B
 dsimp only
 by_cases h:a<(L.length:Int)
 ·have hd:decide (a<(L.length:Int))=true:=by simp<;>omega
  have hi:ib a (L.length:Int)=true:=by simp<;>omega
  rw [(lr h0 h).1]
  simp only [hd,hi,Qc,ck,tk]
  cases (gt L a dS.z).1 !=1<;>rfl
 ·have hd:decide (a<(L.length:Int))=false:=by simp<;>omega
  rw [lX h,hd]
  rfl
omit [Lk] in
theorem pC {p:ByteArray} (h:tk p (dr L a)=true):a<(L.length:Int):=by
 by_cases g:a<(L.length:Int)
 ·exact g
 ·rw [lX g] at h
  cases h
theorem lY {p:ByteArray} {k:Bool×List aX×Unit→Option A} (s:St L a ok (PF=Option.bind (aw.F ([p],dr L a,())) k) (PF=fail)):
 ∃b a',aR.F (p,L,a,ok,())=some (b,L,a',ok,())∧St L a' ok (PF=k (b,dr L a',())) (PF=fail)∧(b=true→a'=a+1)∧a≤a'∧b=tk p (dr L a)∧(b=false→a'=a):=by
 have hl:(dr L a).length≤20000:=by have:=s.l;simp;omega
 have hp:=kz p (dr L a) hl
 have a0:=s.a0
 have a1:=s.a1
 have sl:=s.l
 rw [aR.eq];unfold aR.B
 dsimp only
 simp only [zp p s.a0,Qa]
 cases hb:tk p (dr L a) with
 |false=>
  rw [hb] at hp
  exact ⟨false,a,rfl,s.to (fun g=>by rw [g,hp];rfl) id,fun h=>(by cases h),Int.le_refl _,rfl,fun _=>rfl⟩
 |true=>
  have hlt:=pC hb
  have hw:wr (a+1)=a+1:=bB (by omega) (by omega)
  rw [hb,(lr s.a0 hlt).1] at hp
  refine ⟨true,a+1,by simp only [Qc,hw],s.up (by omega) (by omega) (fun e=>?_) s.h,fun _=>rfl,by omega,rfl,fun h=>by cases h⟩
  rw [s.g e,(lr s.a0 hlt).1,hp]
  rfl
theorem iY:cW.F (false,())=some (.inr 70):=by rw [cW.eq];rfl
theorem jG:cW.F (true,())=some (.inl ()):=by rw [cW.eq];rfl
theorem lZ {p:ByteArray} {k:Bool×List aX×Unit→Option A} (s:St L a ok (PF=Option.bind (aw.F ([p],dr L a,())) k) (PF=fail)) (hk:∀l,k (false,l,())=fail):
 ∃a' ok',bP.F (p,L,a,ok,())=some (L,a',ok',())∧St L a' ok' (PF=k (true,dr L a',())) (PF=fail)∧a≤a'∧(ok'=true→ok=true):=by
 rw [bP.eq];unfold bP.B
 obtain ⟨b,a',e,s',h1,h2,_⟩:=lY s
 dsimp only
 simp only [e,Qa]
 cases b with
 |true=>exact ⟨a',ok,rfl,s',h2,id⟩
 |false=>
  refine ⟨a',false,rfl,s'.up s'.a0 s'.a1 (fun e=>by cases e) fun _=>?_,h2,fun e=>by cases e⟩
  cases ho:ok with
  |true=>rw [s'.g ho];exact hk _
  |false=>exact s'.h ho
theorem uM (s:St L a ok G H):∃k t c d u a' ok',bC.F (L,a,ok,())=some (k,t,c,d,u,L,a',ok',())∧(0≤a'∧a'≤(L.length:Int)∧a≤a')∧
 ((ok'=ok∧a'=a+1∧bf.F (dr L a,())=some (.inl (k,t,c,d,u,dr L a',()))∧Tw (k,t,c,d,u)∧dr L a=(k,t,c,d,u)::dr L a')∨(ok'=false∧k=-1∧t=e0∧c=0∧d=0∧u=e0∧a'=a∧dr L a=[]∧bf.F (dr L a,())=some (.inr 70))):=by
 have a0:=s.a0
 have a1:=s.a1
 have sl:=s.l
 by_cases h:a<(L.length:Int)
 ·obtain ⟨hc,hm⟩:=lr a0 h
  have ht:=s.t _ hm
  generalize hgt:gt L a dS.z=t at*
  obtain ⟨k,t,c,d,u⟩:=t
  have hR:bC.F (L,a,ok,())=some (k,t,c,d,u,L,a+1,ok,()):=by
   rw [bC.eq];unfold bC.B
   have hd:decide (a≥(L.length:Int))=false:=by simp<;>omega
   have hw:wr (a+1)=a+1:=bB (by omega) (by omega)
   have hw2:wr (a+1-1)=a:=by rw [bB]<;>omega
   have hi:ib a (L.length:Int)=true:=by simp<;>omega
   simp only [hd,Qb,hw,hw2,hi,ck,Qc,hgt]
  have hP:bf.F ((k,t,c,d,u)::dr L (a+1),())=some (.inl (k,t,c,d,u,dr L (a+1),())):=by
   rw [bf.eq];unfold bf.B
   have hd2:decide (((((k,t,c,d,u)::dr L (a+1)).length:Nat):Int)>(0:Int))=true:=by simp<;>omega
   have hi2:ib (0:Int) ((((k,t,c,d,u)::dr L (a+1)).length:Nat):Int)=true:=by simp<;>omega
   have hs2:sb (1:Int) ((((k,t,c,d,u)::dr L (a+1)).length:Nat):Int) ((((k,t,c,d,u)::dr L (a+1)).length:Nat):Int)=true:=by simp<;>omega
   simp only [hd2,jG,Qa,hi2,ck,Qc,hs2,Int.toNat_natCast,List.take_length]
   rfl
  exact ⟨k,t,c,d,u,a+1,ok,hR,⟨by omega,by omega,by omega⟩,.inl ⟨rfl,rfl,by rw [hc];exact hP,ht,hc⟩⟩
 ·have hR:bC.F (L,a,ok,())=some (-1,e0,0,0,e0,L,a,false,()):=by
   rw [bC.eq];unfold bC.B
   have hd:decide (a≥(L.length:Int))=true:=by simp<;>omega
   simp only [hd,Qc]
  have hP:bf.F (([]:List aX),())=some (.inr 70):=by
   rw [bf.eq];unfold bf.B
   simp only [List.length_nil,show decide (((0:Nat):Int)>(0:Int))=false from rfl,iY,Qa]
  exact ⟨_,_,_,_,_,a,false,hR,⟨a0,a1,Int.le_refl _⟩,.inr ⟨rfl,rfl,rfl,rfl,rfl,rfl,rfl,lX h,by rw [lX h];exact hP⟩⟩
theorem nW {k : (ByteArray × List aX × Unit) ⊕ Int → Option A} (s : St L a ok (PF = Option.bind (cn.F (dr L a,())) k) (PF = fail)) (hk : k (.inr 70) = fail) :
    ∃v a' ok',bV.F (L,a,ok,())=some (v,L,a',ok',())∧St L a' ok' (PF=k (.inl (v,dr L a',()))) (PF=fail)∧a≤a'∧(ok'=true→ok=true):=by
  rw [bV.eq];unfold bV.B
  rw [cn.eq] at s;unfold cn.B at s
  obtain ⟨kd,t,c,d,u,a',ok',e,⟨b1,b2,b4⟩,b3⟩:=uM s
  dsimp only
  simp only [e,Qa]
  rcases b3 with ⟨rfl,_,e2,ht,_⟩|⟨rfl,rfl,rfl,rfl,rfl,rfl,rfl,_,e2⟩
  · simp only [e2,Qa] at s
    have hbn:(kd !=(0:Int))= !(kd==(0:Int)):=rfl
    cases h0:(kd==(0:Int)) with
    |false=>
      rw [hbn,h0]
      simp only [h0,Qb,iY,Qa] at s
      exact ⟨t,a',false,rfl,s.up b1 b2 (fun e=>by cases e) fun _=>by
        cases ho:ok' with
        |true=>rw [s.g ho];exact hk
        |false=>exact s.h ho,b4,fun e=>by cases e⟩
    |true=>
      obtain ⟨b,n1,n2⟩:=CS t (by have:=ht.1;dsimp only at this;omega)
      rw [hbn,h0]
      simp only [Bool.not_true,Qb,n1,Qa]
      simp only [h0,Qc,n2,Qa] at s
      cases b with
      |true=>
        simp only [jG,Qa] at s
        exact ⟨t,a',ok',rfl,s.up b1 b2 s.g s.h,b4,id⟩
      |false=>
        simp only [iY,Qa] at s
        exact ⟨t,a',false,rfl,s.up b1 b2 (fun e=>by cases e) fun _=>by
          cases ho:ok' with
          |true=>rw [s.g ho];exact hk
          |false=>exact s.h ho,b4,fun e=>by cases e⟩
  · simp only [e2,Qa] at s
    exact ⟨_,a',false,rfl,s.up b1 b2 (fun e=>by cases e) fun _=>by
      cases ho:ok with
      |true=>rw [s.g ho];exact hk
      |false=>exact s.h ho,b4,fun e=>by cases e⟩
theorem qw {k : (Int × List aX × Unit) ⊕ Int → Option A} (s : St L a ok (PF = Option.bind (bI.F (dr L a,())) k) (PF = fail)) (hk : k (.inr 70) = fail) :
    ∃v a' ok',ci.F (L,a,ok,())=some (v,L,a',ok',())∧St L a' ok' (PF=k (.inl (v,dr L a',()))) (PF=fail)∧a≤a'∧(ok'=true→ok=true):=by
  rw [ci.eq];unfold ci.B
  rw [bI.eq] at s;unfold bI.B at s
  obtain ⟨kd,t,c,d,u,a',ok',e,⟨b1,b2,b4⟩,b3⟩:=uM s
  dsimp only
  simp only [e,Qa]
  have fin:∀{v:Int},(ok=true→PF=fail)→∃w a'' ok'',some (v,L,a',false,())=some (w,L,a'',ok'',())∧St L a'' ok'' (PF=k (.inl (w,dr L a'',()))) (PF=fail)∧a≤a''∧(ok''=true→ok=true):=fun {v} h=>⟨v,a',false,rfl,s.up b1 b2 (fun e=>by cases e) fun _=>by
    cases ho:ok with
    |true=>exact h ho
    |false=>exact s.h ho,b4,fun e=>by cases e⟩
  rcases b3 with ⟨rfl,_,e2,ht,_⟩|⟨rfl,rfl,rfl,rfl,rfl,rfl,rfl,_,e2⟩
  · simp only [e2,Qa] at s
    have hb:∀x y:Int,(x !=y)= !(x==y):=fun _ _=>rfl
    simp only [hb]
    cases h0:(kd==(1:Int)) with
    |false=>
      simp only [h0,Qb,iY,Qa] at s
      exact fin fun ho=>by rw [s.g ho];exact hk
    |true=>
      cases h1:(c==(2:Int)) with
      |false=>
        simp only [h0,h1,Qc,Qb,iY,Qa] at s
        exact fin fun ho=>by rw [s.g ho];exact hk
      |true=>
        by_cases h2:0≤d
        · have e1:decide (d<(0:Int))=false:=by simp<;>omega
          have e2:decide (d≥(0:Int))=true:=by simp<;>omega
          by_cases h3:d≤99
          · have e3:decide (d>(99:Int))=false:=by simp<;>omega
            have e4:decide (d≤(99:Int))=true:=by simp<;>omega
            simp only [h0,h1,e2,e4,Qc,jG,Qa] at s
            simp only [e1,e3,Bool.not_true,Qb,il,jn,Qa]
            exact ⟨d,a',ok',rfl,s.up b1 b2 s.g s.h,b4,id⟩
          · have e3:decide (d>(99:Int))=true:=by simp<;>omega
            have e4:decide (d≤(99:Int))=false:=by simp<;>omega
            simp only [h0,h1,e2,e4,Qc,iY,Qa] at s
            simp only [e1,e3,Bool.not_true,Qb,il,jn,Qa,Qc]
            exact fin fun ho=>by rw [s.g ho];exact hk
        · have e1:decide (d<(0:Int))=true:=by simp<;>omega
          have e2:decide (d≥(0:Int))=false:=by simp<;>omega
          simp only [h0,h1,e2,Qc,Qb,iY,Qa] at s
          simp only [e1,Bool.not_true,Qb,Qc,il,jn,Qa]
          exact fin fun ho=>by rw [s.g ho];exact hk
  · simp only [e2,Qa] at s
    exact fin fun ho=>by rw [s.g ho];exact hk
theorem vY {l:List ByteArray} {k:(Int×List aX×Unit)⊕Int→Option A} (s:St L a ok (PF=Option.bind (bS.F (l,dr L a,())) k) (PF=fail)) (hk:k (.inr 70)=fail) (hl:l.length≤100):
 ∃v a' ok',cq.F (l,L,a,ok,())=some (v,L,a',ok',())∧St L a' ok' (PF=k (.inl (v,dr L a',()))) (PF=fail)∧a≤a'∧(ok'=true→ok=true):=by
 suffices h:Tot (cq.F (l,L,a,ok,())) fun y=>y.2.1=L∧St L y.2.2.1 y.2.2.2.1 (PF=k (.inl (y.1,dr L y.2.2.1,()))) (PF=fail)∧a≤y.2.2.1∧(y.2.2.2.1=true→ok=true) by
  obtain ⟨⟨v,L',a',ok',_⟩,e,rfl,h2,h3⟩:=h
  exact ⟨v,a',ok',e,h2,h3⟩
 rw [cq.eq];unfold cq.B
 rw [bS.eq] at s;unfold bS.B at s
 obtain ⟨body,K,s,hb,hK⟩:∃(body:Int×List aX×Unit→Option ((Int×List aX×Unit)⊕((List aX×Unit)⊕((Int×List aX×Unit)⊕Int)))) (K:List aX×Unit→Option ((Int×List aX×Unit)⊕Int)),St L a ok (PF=Option.bind (jn (aN body ((0:Int),dr L a,())) K) k) (PF=fail)∧
  (∀(i:Nat) (hi:i<l.length) (m:List aX),body ((i:Int),m,())=Option.bind (aw.F ([l[i]],m,())) fun y2=>(bif y2.1 then ir (.inr (.inl ((i:Int),y2.2.1,()))) else il (((i+1:Nat):Int),y2.2.1,())))∧(∀m,body ((l.length:Int),m,())=ir (.inl (m,())))∧∀m,K (m,())=some (.inr 70):=by
  refine ⟨_,_,s,fun i hi m=>?_,fun m=>?_,fun m=>?_⟩
  ·have h1:decide ((i:Int)<(l.length:Int))=true:=by simp<;>omega
   have h2:ib (i:Int) (l.length:Int)=true:=by simp<;>omega
   have hw:wr ((i:Int)+1)=((i+1:Nat):Int):=by rw [bB (by omega) (by omega)];omega
   dsimp only
   simp only [h1,h2,Qc,ck,cD hi,hw]
  ·have h1:decide ((l.length:Int)<(l.length:Int))=false:=by simp
   dsimp only
   simp only [h1,Qb]
  ·dsimp only
   rw [iY]
   rfl
 obtain ⟨hE,hK⟩:=hK
 obtain ⟨K2,s,k1,k2⟩:∃K2:((List aX×Unit)⊕((Int×List aX×Unit)⊕Int))→Option A,St L a ok (PF=Option.bind (aN body (((0:Nat):Int),dr L a,())) K2) (PF=fail)∧(∀m,K2 (.inl (m,()))=fail)∧∀r,K2 (.inr r)=k r:=by
  refine ⟨jk K k,s.to (fun g=>g.trans (tD _ _ _)) id,fun m=>?_,fun r=>rfl⟩
  rw [jk_l,hK]
  exact hk
 refine aY (fun x=>x.1=L∧St L x.2.1 x.2.2.1 (PF=fail) (PF=fail)∧a≤x.2.1) ?_ ?_
 rotate_left 1
 ·rintro ⟨L',a',ok',_⟩ ⟨rfl,h,h2⟩
  exact ai.2 ⟨rfl,h.up h.a0 h.a1 (fun e=>by cases e) fun _=>by
   dsimp only at h
   cases ho:ok' with
   |true=>exact h.g ho
   |false=>exact h.h ho,h2,fun e=>by cases e⟩
 refine dk (fun x=>l.length-x.1.toNat) (fun x=>∃(i:Nat) (a':Int),x=((i:Int),L,a',ok,())∧i≤l.length∧a≤a'∧St L a' ok (PF=Option.bind (aN body ((i:Int),dr L a',())) K2) (PF=fail)) ⟨0,a,rfl,by omega,Int.le_refl _,s⟩ ?_
 rintro _ ⟨i,a',rfl,i1,i2,i3⟩
 dsimp only
 rw [tA] at i3
 refine ac.2 ⟨fun h5=>?_,fun h5=>?_⟩
 ·simp at h5
  have hw:wr ((i:Int)+1)=((i+1:Nat):Int):=by rw [bB (by omega) (by omega)];omega
  rw [hb i h5,tC] at i3
  obtain ⟨b,a2,e,s2,_,h2,_⟩:=lY i3
  simp only [cD h5,e,Qa,hw]
  refine ah.2 ⟨by simp;omega,?_⟩
  cases b with
  |true=>exact aH.2 ⟨rfl,s2.to (fun g=>by rw [g];exact k2 _) id,by dsimp only;omega,id⟩
  |false=>exact av.2 ⟨⟨i+1,a2,rfl,h5,by omega,s2⟩,by dsimp only;omega⟩
 ·simp at h5
  have:i=l.length:=by omega
  subst this
  rw [hE,lp_r] at i3
  exact aH.2 ⟨rfl,i3.to (fun g=>g.trans (k1 _)) id,i2⟩
end Go.Proofs.Ytpoffnlnhdbpmaa
end
section
set_option maxRecDepth 100000
namespace Go.Proofs.Ytpoffnlnhdbpmaa
open Go Lv Go.Proofs Go.RowKit Go.Shelf
variable [Lk]
variable {L:List aX} {a:Int} {ok:Bool} {G H:Prop} {A:Type} {PF fail:Option A}
theorem CX (p q : ByteArray) (l : List aX) (h : l.length ≤ 20000) : cJ.F ([p,q],l,()) = some (tk p l && tk q l.tail,l,()) := by
  rw [cJ.eq];unfold cJ.B
  dsimp only
  rw [dC]
  cases l with
  |nil=>rfl
  |cons t r=>
    have hd:decide ((0:Int)≥(((t::r).length:Nat):Int))=false:=by simp<;>omega
    have hi:ib (0:Int) (((t::r).length:Nat):Int)=true:=by simp<;>omega
    have hg:gt (t::r) (0:Int) dS.z=t:=rfl
    have hw:wr ((0:Int)+1)=1:=by decide
    have hL:(([p,q].length:Nat):Int)=2:=rfl
    simp only [hL,show decide ((0:Int)<2)=true from rfl,show ib (0:Int) 2=true from rfl,Qc,ck,hd,Qb,hi,hg,show gt [p,q] (0:Int) (⟨#[]⟩:ByteArray)=p from rfl,hw,tk,List.tail_cons]
    cases h1:(t.1==(1:Int)) with
    |true=>
      have:(t.1 !=(1:Int))=false:=by simp [bne,h1]
      simp only [Qc,this,Bool.false_and]
      rfl
    | false =>
      have:(t.1 !=(1:Int))=true:=by simp [bne,h1]
      simp only [Qb,this,Bool.true_and]
      cases h2:sq t.2.1 p with
      |false=>rfl
      |true=>
        simp only [Bool.not_true,Qb,il,Bool.true_and]
        rw [dC]
        cases r with
        |nil=>rfl
        |cons u r=>
          have hd:decide ((1:Int)≥(((t::u::r).length:Nat):Int))=false:=by simp<;>omega
          have hi:ib (1:Int) (((t::u::r).length:Nat):Int)=true:=by simp<;>omega
          have hg:gt (t::u::r) (1:Int) dS.z=u:=rfl
          have hw:wr ((1:Int)+1)=2:=by decide
          simp only [show decide ((1:Int)<2)=true from rfl,show ib (1:Int) 2=true from rfl,Qc,ck,hd,Qb,hi,hg,show gt [p,q] (1:Int) (⟨#[]⟩:ByteArray)=q from rfl,hw]
          cases h1:(u.1==(1:Int)) with
          |true=>
            have:(u.1 !=(1:Int))=false:=by simp [bne,h1]
            simp only [Qc,this,Bool.false_and]
            rfl
          |false=>
            have:(u.1 !=(1:Int))=true:=by simp [bne,h1]
            simp only [Qb,this,Bool.true_and]
            cases h2:sq u.2.1 q with
            |false=>rfl
            |true=>
              simp only [Bool.not_true,Qb,il]
              rw [dC]
              rfl
theorem zq (p q : ByteArray) (l : List aX) (h : l.length ≤ 20000) : aw.F ([p,q],l,()) = some (tk p l && tk q l.tail,(bif tk p l && tk q l.tail then l.tail.tail else l),()) := by
  rw [aw.eq];unfold aw.B
  dsimp only
  simp only [CX p q l h,Qa]
  cases hb:(tk p l&&tk q l.tail) with
  |false=>rfl
  |true=>
    have hb:=Bool.and_eq_true_iff.1 hb
    cases l with
    |nil=>cases hb.1
    |cons t r=>
      cases r with
      |nil=>cases hb.2
      |cons u r=>
        have:sb (2:Int) (((t::u::r).length:Nat):Int) (((t::u::r).length:Nat):Int)=true:=by simp<;>omega
        simp only [Bool.not_true,Qb,show (([p,q].length:Nat):Int)=2 from rfl,Int.toNat_natCast,List.take_length,Qc,this,ck]
        rfl
theorem iI (p:ByteArray) (h0:0≤a) (h:L.length≤20000):aR.F (p,L,a,ok,())=some (tk p (dr L a),L,(bif tk p (dr L a) then a+1 else a),ok,()):=by
 rw [aR.eq];unfold aR.B
 dsimp only
 simp only [zp p h0,Qa]
 cases hb:tk p (dr L a) with
 |false=>rfl
 |true=>
  have:=pC hb
  have hw:wr (a+1)=a+1:=bB (by omega) (by omega)
  simp only [Qc,hw]
omit [Lk] in
theorem kS (a b:ByteArray):kEq (.string a) (.string b)=sq a b:=by
 rw [Bool.eq_iff_iff,eW]
 simp [kEq,MapKept.bytes_beq]
abbrev M8:List (Value×Int):=[(.string ⟨#[43]⟩,2),(.string ⟨#[45]⟩,3),(.string ⟨#[42]⟩,4),(.string ⟨#[61]⟩,5),(.string ⟨#[60]⟩,6),(.string ⟨#[97,110,100]⟩,7),(.string ⟨#[111,114]⟩,8),(.string ⟨#[110,111,116]⟩,9)]
abbrev M3:List (Value×ap):=[(.string ⟨#[110,117,108,108]⟩,(0,0,⟨#[]⟩)),(.string ⟨#[102,97,108,115,101]⟩,(1,0,⟨#[]⟩)),(.string ⟨#[116,114,117,101]⟩,(1,1,⟨#[]⟩))]
abbrev W8:List ByteArray:=[⟨#[43]⟩,⟨#[45]⟩,⟨#[42]⟩,⟨#[61]⟩,⟨#[60]⟩,⟨#[97,110,100]⟩,⟨#[111,114]⟩,⟨#[110,111,116]⟩]
omit [Lk] in
theorem CY:∀i (h:i<W8.length),getKV (.string W8[i]) M8=some (2+(i:Int)):=by
 intro i h
 have:i<8:=h
 have:i=0∨i=1∨i=2∨i=3∨i=4∨i=5∨i=6∨i=7:=by omega
 rcases this with rfl|rfl|rfl|rfl|rfl|rfl|rfl|rfl<;>rfl
omit [Lk] in
theorem Ba (s:ByteArray) (h:∀i (h:i<W8.length),sq s W8[i]=false):getKV (.string s) M8=none:=by
 have h0:=h 0 (by simp)
 have h1:=h 1 (by simp)
 have h2:=h 2 (by simp)
 have h3:=h 3 (by simp)
 have h4:=h 4 (by simp)
 have h5:=h 5 (by simp)
 have h6:=h 6 (by simp)
 have h7:=h 7 (by simp)
 simp at h0 h1 h2 h3 h4 h5 h6 h7
 simp only [getKV,kS,h0,h1,h2,h3,h4,h5,h6,h7,Qb]
omit [Lk] in
theorem c_ext (s:ByteArray):sq (s.extract 0 1) (⟨#[99]⟩:ByteArray)=true→s=(⟨#[99]⟩:ByteArray)++s.extract 1 s.size:=fun h=>by
 have h:=eW.1 h
 apply jq
 have h1:bl (s.extract 0 1)=[99]:=by rw [h]
 rw [iH] at h1
 rw [ee,iH]
 show bl s=[99]++_
 rw [←h1,show s.size-1=(bl s).length-1 by rw [show (bl s).length=s.size from Array.length_toList]]
 simp only [List.drop_zero]
 cases hb:bl s with
 |nil=>rw [hb] at h1;cases h1
 |cons x r=>simp
theorem cut_s (s:ByteArray) (h:s.size≤100000):cy.F (s,(⟨#[99]⟩:ByteArray),())=bif sq (s.extract 0 1) (⟨#[99]⟩:ByteArray) then some (s.extract 1 s.size,true,()) else some (s,false,()):=by
 rw [cy.eq];unfold cy.B
 rw [aQ.eq];unfold aQ.B
 rw [aP.eq];unfold aP.B
 dsimp only
 by_cases h1:1≤s.size
 ·have hd:decide ((s.size:Int)≥(((⟨#[99]⟩:ByteArray).size:Nat):Int))=true:=by simp<;>omega
  have hs:sb (0:Int) (((⟨#[99]⟩:ByteArray).size:Nat):Int) (s.size:Int)=true:=by simp<;>omega
  have hs2:sb (((⟨#[99]⟩:ByteArray).size:Nat):Int) (s.size:Int) (s.size:Int)=true:=by simp<;>omega
  simp only [hd,hs,Qc,ck,Qa,hs2]
  show Option.bind (bif !sq (s.extract 0 1) ⟨#[99]⟩ then _ else _) _=_
  cases sq (s.extract 0 1) (⟨#[99]⟩:ByteArray)<;>rfl
 ·have hd:decide ((s.size:Int)≥(((⟨#[99]⟩:ByteArray).size:Nat):Int))=false:=by simp<;>omega
  have:sq (s.extract 0 1) (⟨#[99]⟩:ByteArray)=false:=by
   rw [←Bool.not_eq_true]
   intro e
   have:=congrArg ByteArray.size (eW.1 e)
   simp at this
   omega
  simp only [hd,Qb,Qa,this]
  rfl
omit [Lk] in
theorem zr {n m:Int} (hn:I64 n) (hm:I64 m) (h:dB n=dB m):n=m:=by
 have h1:=mM n hn
 rw [h,mM m hm] at h1
 injection h1 with h1 _
 exact h1.symm
omit [Lk] in
theorem tE (n:Int) (h:I64 n):1≤(dB n).size∧(n<0→bM (dB n) 0=45):=by
 obtain ⟨c,r,e,c1,c2⟩:=rp n.natAbs
 have hsz:(dB n).size=(Lib.itoa n).length:=rfl
 have hb:bl (dB n)=Lib.itoa n:=rfl
 have hd:Lib.itoa n=if n<0 then 45::Lib.decDigits n.natAbs else Lib.decDigits n.toNat:=rfl
 by_cases hn:n<0
 ·rw [if_pos hn] at hd
  refine ⟨by rw [hsz,hd];simp,fun _=>?_⟩
  rw [(js (s:=dB n) (i:=0) (c:=45) (r:=Lib.decDigits n.natAbs) (by rw [List.drop_zero,hb,hd])).1]
  rfl
 ·rw [if_neg hn,show n.toNat=n.natAbs by omega,e] at hd
  exact ⟨by rw [hsz,hd];simp,fun h=>absurd h hn⟩
theorem zt (s : ByteArray) (hs : s.size ≤ 20000) (hw : Wd' s = true ∨ s.size = 1) : ∃ n b,cM.F (s,()) = some (n,b,()) ∧ (b = true → 0 ≤ n ∧ n ≤ 99 ∧ s = (⟨#[99]⟩ : ByteArray) ++ dB n) ∧ (b = false → ∀ m : Int,0 ≤ m → m ≤ 99 → s ≠ (⟨#[99]⟩ : ByteArray) ++ dB m) := by
  rw [cM.eq];unfold cM.B
  dsimp only
  rw [cut_s s (by omega)]
  cases hp:sq (s.extract 0 1) (⟨#[99]⟩:ByteArray) with
  |false=>
    rw [Qb,Qa,zn s (by omega)]
    dsimp only
    refine ⟨_,false,rfl,fun h=>(by cases h),fun _ m h1 h2 e=>?_⟩
    rw [e] at hp
    have:((⟨#[99]⟩:ByteArray)++dB m).extract 0 1=⟨#[99]⟩:=by
      apply jq
      rw [iH,ee]
      rfl
    rw [this] at hp
    simp [sq] at hp
  |true=>
    have he:=c_ext s hp
    have hsz:(s.extract 1 s.size).size=s.size-1:=by rw [ky];omega
    have h1:1≤s.size:=by
      have:=congrArg ByteArray.size he
      rw [ByteArray.size_append] at this
      simp at this
      omega
    rw [Qc,Qa,zn (s.extract 1 s.size) (by omega)]
    dsimp only
    have inj:∀m:Int,s=(⟨#[99]⟩:ByteArray)++dB m→s.extract 1 s.size=dB m:=fun m e=>by
      apply jq
      rw [iH]
      have hb:bl s=99::bl (dB m):=by rw [e,ee];rfl
      have hl:s.size=(bl s).length:=Array.length_toList.symm
      rw [hl,hb]
      simp
      exact List.take_of_length_le (Nat.le_of_eq Array.length_toList)
    cases ha:(iA (s.extract 1 s.size)).2 with
    |false=>
      refine ⟨_,false,rfl,fun h=>(by cases h),fun _ m h1 h2 e=>?_⟩
      rw [inj m e,mM m ⟨by omega,by omega⟩] at ha
      cases ha
    |true=>
      have h64:=vX ha
      simp only [Qc]
      by_cases h9:(iA (s.extract 1 s.size)).1≤99
      · have hd:decide ((iA (s.extract 1 s.size)).1≤(99:Int))=true:=by simpa using h9
        rw [hd,Qc,ol _ h64]
        dsimp only
        refine ⟨_,_,rfl,fun hq=>?_,fun hq m h1 h2 e=>?_⟩
        · have hq:=eW.1 hq
          have hpos:=tE _ h64
          rw [hq] at hpos
          refine ⟨?_,h9,by rw [hq];exact he⟩
          by_cases hn:(iA (s.extract 1 s.size)).1<0
          · have h45:=hpos.2 hn
            rw [mL s 1 s.size 0 (by omega) (by omega)] at h45
            rcases hw with hw|hw
            · unfold Wd' at hw
              simp only [Bool.and_eq_true,decide_eq_true_eq] at hw
              have:=(uL (by omega)).1 hw.2.2.2 1 (by omega) (by omega)
              rw [h45] at this
              cases this
            · omega
          · omega
        · have e:=inj m e
          rw [e,mM m ⟨by omega,by omega⟩] at hq
          simp [sq] at hq
      · have hd:decide ((iA (s.extract 1 s.size)).1≤(99:Int))=false:=by simp<;>omega
        simp only [hd,Qb]
        refine ⟨_,false,rfl,fun h=>(by cases h),fun _ m h1 h2 e=>?_⟩
        rw [inj m e,mM m ⟨by omega,by omega⟩] at h9
        exact h9 h2
end Go.Proofs.Ytpoffnlnhdbpmaa
end
section
set_option maxRecDepth 100000
namespace Go.Proofs.Ytpoffnlnhdbpmaa
open Go Lv Go.Proofs Go.RowKit Go.Shelf
variable [Lk]
variable {L:List aX} {a:Int} {ok:Bool} {G H:Prop} {A:Type} {PF fail:Option A}
noncomputable def stP (t:aX) (r:List aX):Option ((Int×Int×Int×Int×ByteArray×List aX×Unit)⊕Int):=
 bif t.1==1 then some (.inl (1,0,t.2.2.1,t.2.2.2.1,t.2.2.2.2,r,())) else match getKV (.string t.2.1) M8 with
 |some o=>some (.inl (o,0,0,0,e0,r,()))
 |none=>match getKV (.string t.2.1) M3 with
  |some v=>some (.inl (1,0,v.1,v.2.1,v.2.2,r,()))
  |none=>(cM.F (t.2.1,())).bind fun y=>bif y.2.1 then some (.inl (0,y.1,0,0,e0,r,())) else some (.inr 70)
theorem Bb (l : List aX) (h : l.length ≤ 20000) : bH.F (l,()) = bif tk ⟨#[110,117,108,108]⟩ l && tk ⟨#[63]⟩ l.tail then some (.inl (10,0,0,0,e0,l.tail.tail,())) else match l with
    | []=>some (.inr 70)
    |t::r=>stP t r:=by
  rw [bH.eq];unfold bH.B bH.b
  dsimp only
  simp only [zq _ _ l h,Qa]
  cases (tk ⟨#[110,117,108,108]⟩ l&&tk ⟨#[63]⟩ l.tail) with
  |true=>rfl
  | false =>
    simp only [Qb]
    cases l with
    |nil=>
      rw [bf.eq];unfold bf.B
      simp only [List.length_nil,show decide (((0:Nat):Int)>(0:Int))=false from rfl,iY,Qa]
    |cons t r=>
      have hn:bf.F (t::r,())=some (.inl (t.1,t.2.1,t.2.2.1,t.2.2.2.1,t.2.2.2.2,r,())):=by
        rw [bf.eq];unfold bf.B
        have hd2:decide ((((t::r).length:Nat):Int)>(0:Int))=true:=by simp<;>omega
        have hi2:ib (0:Int) (((t::r).length:Nat):Int)=true:=by simp<;>omega
        have hs2:sb (1:Int) (((t::r).length:Nat):Int) (((t::r).length:Nat):Int)=true:=by simp<;>omega
        simp only [hd2,jG,Qa,hi2,ck,Qc,hs2,Int.toNat_natCast,List.take_length]
        rfl
      simp only [hn,Qa]
      unfold stP
      cases h1:(t.1==(1:Int)) with
      |true=>rfl
      | false =>
        simp only [Qb]
        show jn (il (Option.getD (getKV (.string t.2.1) M8) 0,Option.isSome (getKV (.string t.2.1) M8),())) _=_
        cases getKV (.string t.2.1) M8 with
        |some o=>rfl
        |none=>
          simp only [il,jn,Qa,Option.isSome_none,Qb]
          show Option.bind (some (Sum.inl (Option.isSome (getKV (.string t.2.1) M3),(Option.getD (getKV (.string t.2.1) M3) (0,0,⟨#[]⟩)).1,(Option.getD (getKV (.string t.2.1) M3) (0,0,⟨#[]⟩)).2.1,(Option.getD (getKV (.string t.2.1) M3) (0,0,⟨#[]⟩)).2.2,()))) _=_
          cases getKV (.string t.2.1) M3 with
          |some v=>rfl
          |none=>
            simp only [Qa,Option.isSome_none,Qb]
            cases cM.F (t.2.1,()) with
            |none=>rfl
            |some y=>
              simp only [Qa]
              cases y.2.1 with
              |true=>simp only [jG,Qa];rfl
              |false=>simp only [iY,Qa];rfl
theorem CZ {k : (Int × Int × Int × Int × ByteArray × List aX × Unit) ⊕ Int → Option A} (s : St L a ok (PF = Option.bind (bH.F (dr L a,())) k) (PF = fail)) (hk : k (.inr 70) = fail) :
    ∃o n c d u a' ok',ct.F (L,a,ok,())=some (o,n,c,d,u,L,a',ok',())∧St L a' ok' (PF=k (.inl (o,n,c,d,u,dr L a',()))) (PF=fail)∧a≤a'∧(ok'=true→ok=true)∧(ok'=true→Sg (o,(n,(c,(d,u))))):=by
  suffices h:Tot (ct.F (L,a,ok,())) fun y=>y.2.2.2.2.2.1=L∧St L y.2.2.2.2.2.2.1 y.2.2.2.2.2.2.2.1 (PF=k (.inl (y.1,y.2.1,y.2.2.1,y.2.2.2.1,y.2.2.2.2.1,dr L y.2.2.2.2.2.2.1,()))) (PF=fail)∧a≤y.2.2.2.2.2.2.1∧(y.2.2.2.2.2.2.2.1=true→ok=true)∧(y.2.2.2.2.2.2.2.1=true→Sg (y.1,(y.2.1,(y.2.2.1,(y.2.2.2.1,y.2.2.2.2.1))))) by
    obtain ⟨⟨o,n,c,d,u,L',a',ok',_⟩,e,rfl,h2,h3⟩:=h
    exact ⟨o,n,c,d,u,a',ok',e,h2,h3⟩
  have hl:(dr L a).length≤20000:=by have:=s.l;simp;omega
  have a0:=s.a0
  have a1:=s.a1
  have sl:=s.l
  rw [Bb _ hl] at s
  rw [ct.eq];unfold ct.B
  dsimp only
  simp only [iI _ a0 sl,Qa]
  have bad:∀{a':Int} {o n c d:Int} {u:ByteArray},0≤a'→a'≤(L.length:Int)→a≤a'→(ok=true→PF=fail)→St L a' false (PF=k (.inl (o,n,c,d,u,dr L a',()))) (PF=fail):=fun h0 h1 _ h=>s.up h0 h1 (fun e=>by cases e) fun _=>by
    cases ho:ok with
    |true=>exact h ho
    |false=>exact s.h ho
  by_cases h:a<(L.length:Int)
  rotate_left 1
  · rw [lX h] at s ⊢
    simp only [tk,Qb,Bool.false_and,iI _ a0 sl,Qa,lX h] at s ⊢
    refine aY (fun x=>x=(L,a,ok,())) ?_ ?_
    · refine dk (fun x=>8-x.1.toNat) (fun x=>∃i:Nat,x=((i:Int),L,a,ok,())∧i≤8) ⟨0,rfl,by omega⟩ ?_
      rintro _ ⟨i,rfl,i1⟩
      dsimp only
      refine ac.2 ⟨fun h5=>?_,fun _=>aH.2 rfl⟩
      simp at h5
      have hw:wr ((i:Int)+1)=((i+1:Nat):Int):=by rw [bB (by omega) (by omega)];omega
      simp only [iI _ a0 sl,Qa,lX h,tk,Qb,hw]
      exact ah.2 ⟨by simp;omega,av.2 ⟨⟨i+1,rfl,by omega⟩,by dsimp only;omega⟩⟩
    · rintro _ rfl
      have hnx:bC.F (L,a,ok,())=some (-1,e0,0,0,e0,L,a,false,()):=by
        rw [bC.eq];unfold bC.B
        have:decide (a≥(L.length:Int))=true:=by simp<;>omega
        simp only [this,Qc]
      simp only [hnx,Qa,show ((-1:Int)==1)=false from rfl,Qb,show ((-1:Int)==0)=false from rfl]
      refine aY (fun _=>True) ?_ fun _ _=>ai.2 ⟨rfl,bad a0 a1 (Int.le_refl _) fun ho=>?_,Int.le_refl _,fun e=>(by cases e),fun e=>(by cases e)⟩
      · refine dk (fun x=>100-x.1.toNat) (fun x=>0≤x.1∧x.1≤100) (by simp) ?_
        rintro ⟨i,_⟩ ⟨i1,i2⟩
        simp [eo]
        omega
      · rw [s.g ho]
        exact hk
  obtain ⟨hc,hm⟩:=lr a0 h
  have ht:=s.t _ hm
  rw [hc] at s ⊢
  have hl2:(dr L (a+1)).length≤20000:=by simp<;>omega
  generalize gt L a dS.z=t at*
  have tkc:∀p,tk p (t::dr L (a+1))=((t.1 !=1)&&sq t.2.1 p):=fun _=>rfl
  -- where the program's step is stP
  have plain:∀{o n c d:Int} {u:ByteArray},(tk ⟨#[110,117,108,108]⟩ (t::dr L (a+1))&&tk ⟨#[63]⟩ (dr L (a+1)))=false→stP t (dr L (a+1))=some (.inl (o,n,c,d,u,dr L (a+1),()))→St L (a+1) ok (PF=k (.inl (o,n,c,d,u,dr L (a+1),()))) (PF=fail):=fun e1 e2=>s.up (by omega) (by omega) (fun ho=>by
    rw [s.g ho,List.tail_cons,e1,Qb]
    show Option.bind (stP t (dr L (a+1))) k=_
    rw [e2]
    rfl) s.h
  refine ac.2 ⟨fun e1=>?_,fun e1=>?_⟩
  · simp only [e1,Qc,iI _ (show 0≤a+1 by omega) sl,Qa]
    refine ac.2 ⟨fun e2=>ai.2 ?_,fun e2=>ai.2 ?_⟩
    · have h2:=pC e2
      simp only [e2,Qc]
      refine ⟨trivial,s.up (by omega) (by omega) (fun ho=>?_) s.h,by omega,id,fun _=> .inr (.inr ⟨by decide,by decide⟩)⟩
      rw [s.g ho,e1,List.tail_cons,e2,(lr (show 0≤a+1 by omega) h2).1,List.tail_cons]
      rfl
    · simp only [e2,Qb]
      rw [tkc] at e1
      obtain ⟨t1,t2⟩:=Bool.and_eq_true_iff.1 e1
      refine ⟨trivial,plain (by rw [e2,Bool.and_false]) ?_,by omega,id,fun _=> .inr (.inl ⟨rfl,.inl rfl⟩)⟩
      have t1:(t.1==1)=false:=by simpa [bne] using t1
      unfold stP
      rw [t1,eW.1 t2]
      rfl
  have e3:(tk ⟨#[110,117,108,108]⟩ (t::dr L (a+1))&&tk ⟨#[63]⟩ (dr L (a+1)))=false:=by rw [e1,Bool.false_and]
  simp only [e1,Qb,iI _ a0 sl,Qa]
  rw [hc]
  have con:∀p v,tk p (t::dr L (a+1))=true→getKV (.string p) M8=none→getKV (.string p) M3=some v→stP t (dr L (a+1))=some (.inl (1,0,v.1,v.2.1,v.2.2,dr L (a+1),())):=fun p v e h1 h2=>by
    rw [tkc] at e
    obtain ⟨t1,t2⟩:=Bool.and_eq_true_iff.1 e
    have t1:(t.1==1)=false:=by simpa [bne] using t1
    unfold stP
    rw [t1,eW.1 t2,h1,h2]
    rfl
  refine ac.2 ⟨fun e2=>?_,fun e2=>?_⟩
  · simp only [jU,Qa,e2,Qc]
    exact ai.2 ⟨rfl,plain e3 (con _ _ e2 rfl rfl),by dsimp only;omega,id,fun _=> .inr (.inl ⟨rfl,.inr (.inr (.inl rfl))⟩)⟩
  simp only [e2,Qb,iI _ a0 sl,Qa]
  rw [hc]
  refine ac.2 ⟨fun e4=>?_,fun e4=>?_⟩
  · simp only [jU,Qa,e4,Qc]
    exact ai.2 ⟨rfl,plain e3 (con _ _ e4 rfl rfl),by dsimp only;omega,id,fun _=> .inr (.inl ⟨rfl,.inr (.inl rfl)⟩)⟩
  simp only [e4,Qb]
  refine aY (fun x=>x=(L,a,ok,())∧∀i (h:i<W8.length),tk W8[i] (t::dr L (a+1))=false) ?_ ?_
  · refine dk (fun x=>8-x.1.toNat) (fun x=>∃i:Nat,x=((i:Int),L,a,ok,())∧i≤8∧∀j (h:j<W8.length),j<i→tk W8[j] (t::dr L (a+1))=false) ⟨0,rfl,by omega,fun _ _ h=>by omega⟩ ?_
    rintro _ ⟨i,rfl,i1,i2⟩
    dsimp only
    refine ac.2 ⟨fun h5=>?_,fun h5=>aH.2 ⟨rfl,fun j hj=>i2 j hj (by simp at h5 hj;omega)⟩⟩
    simp at h5
    have hw:wr ((i:Int)+1)=((i+1:Nat):Int):=by rw [bB (by omega) (by omega)];omega
    have hw2:wr (2+(i:Int))=2+(i:Int):=bB (by omega) (by omega)
    have hi:i<W8.length:=by
      show i<8
      omega
    have hg:List.getD W8 i (⟨#[]⟩:ByteArray)=W8[i]:=by rw [List.getD_eq_getElem?_getD,List.getElem?_eq_getElem hi];rfl
    have hg:List.getD [(⟨#[43]⟩:ByteArray),⟨#[45]⟩,⟨#[42]⟩,⟨#[61]⟩,⟨#[60]⟩,⟨#[97,110,100]⟩,⟨#[111,114]⟩,⟨#[110,111,116]⟩] i (⟨#[]⟩:ByteArray)=W8[i]:=hg
    simp only [Int.toNat_natCast,hg,iI _ a0 sl,Qa,hw,hw2]
    rw [hc]
    refine ah.2 ⟨by simp;omega,ac.2 ⟨fun e5=>aH.2 ?_,fun e5=>av.2 ⟨⟨i+1,?_,by omega,fun j hj hji=>?_⟩,by dsimp only;omega⟩⟩⟩
    · simp only [e5,Qc]
      refine ⟨trivial,plain e3 ?_,by omega,id,fun _=> .inr (.inr ⟨by dsimp only;omega,by dsimp only;omega⟩)⟩
      rw [tkc] at e5
      obtain ⟨t1,t2⟩:=Bool.and_eq_true_iff.1 e5
      have t1:(t.1==1)=false:=by simpa [bne] using t1
      unfold stP
      rw [t1,eW.1 t2,CY i hi]
      rfl
    · simp only [e5,Qb]
    · by_cases e:j=i
      · subst e;exact e5
      · exact i2 j hj (by omega)
  rintro _ ⟨rfl,h8⟩
  have hnx:bC.F (L,a,ok,())=some (t.1,t.2.1,t.2.2.1,t.2.2.2.1,t.2.2.2.2,L,a+1,ok,()):=by
    obtain ⟨kd,x,c,d,u,a',ok',e,_,b3⟩:=uM s
    rcases b3 with ⟨rfl,rfl,_,_,e5⟩|⟨_,_,_,_,_,_,_,e5,_⟩
    · rw [hc] at e5
      injection e5 with e5 _
      rw [e,e5]
    · rw [hc] at e5
      cases e5
  simp only [hnx,Qa]
  refine ac.2 ⟨fun e5=>ai.2 ⟨rfl,plain e3 ?_,by dsimp only;omega,id,fun _=> .inr (.inl ⟨rfl,?_⟩)⟩,fun e5=>?_⟩
  · unfold stP
    rw [e5]
    rfl
  · rcases ht.2 with h|h|h
    · rw [h.1] at e5;cases e5
    · exact h.2
    · rw [h.1] at e5;cases e5
  have nk:∀p,tk p (t::dr L (a+1))=false→sq t.2.1 p=false:=fun p e=>by
    rw [tkc] at e
    have:(t.1 !=1)=true:=by simp only [bne,e5,Bool.not_false]
    rw [this,Bool.true_and] at e
    exact e
  have hst:stP t (dr L (a+1))=(cM.F (t.2.1,())).bind fun y=>bif y.2.1 then some (.inl (0,y.1,0,0,e0,dr L (a+1),())) else some (.inr 70):=by
    unfold stP
    rw [e5,Qb,Ba _ fun i hi=>nk _ (h8 i hi)]
    have:getKV (.string t.2.1) M3=none:=by
      simp only [getKV,kS,nk _ e1,nk _ e2,nk _ e4,Qb]
    rw [this]
  obtain ⟨n,b,hcol,c1,c2⟩:=zt t.2.1 ht.1 (by
    rcases ht.2 with h|h|h
    · exact .inl h.2
    · rw [h.1] at e5;cases e5
    · exact .inr h.2)
  rw [hcol,Qa] at hst
  dsimp only at hst
  have uniq:∀m:Int,0≤m→m≤99→t.2.1=(⟨#[99]⟩:ByteArray)++dB m→b=true∧n=m:=fun m m0 m1 e=>by
    cases b with
    |false=>exact absurd e (c2 rfl m m0 m1)
    |true=>
      obtain ⟨d0,d1,d2⟩:=c1 rfl
      refine ⟨rfl,zr ⟨by omega,by omega⟩ ⟨by omega,by omega⟩ ?_⟩
      rw [d2] at e
      have:=congrArg bl e
      rw [ee,ee] at this
      exact jq (List.append_cancel_left this)
  refine aY (fun _=>b=false∨t.1≠0) ?_ fun _ hb=>ai.2 ⟨rfl,bad (a':=a+1) (by omega) (by omega) (by omega) fun ho=>?_,by dsimp only;omega,fun e=>(by cases e),fun e=>(by cases e)⟩
  rotate_left 1
  · have:b=false:=by
      rcases hb with hb|hb
      · exact hb
      · cases hbb:b with
        |false=>rfl
        |true=>
          rcases ht.2 with h|h|h
          · exact absurd h.1 hb
          · rw [h.1] at e5;cases e5
          · obtain ⟨d0,d1,d2⟩:=c1 hbb
            have hsz:=h.2
            rw [d2,ByteArray.size_append] at hsz
            have:=(tE n ⟨by omega,by omega⟩).1
            have h1:(⟨#[99]⟩:ByteArray).size=1:=rfl
            rw [h1] at hsz
            omega
    rw [s.g ho,List.tail_cons,e3,Qb]
    dsimp only
    rw [hst,this]
    exact hk
  refine dk (fun x=>100-x.1.toNat) (fun x=>∃i:Nat,x=((i:Int),())∧i≤100∧(t.1=0→∀j:Nat,j<i→t.2.1≠(⟨#[99]⟩:ByteArray)++dB j)) ⟨0,rfl,by omega,fun _ _ h=>by omega⟩ ?_
  rintro _ ⟨i,rfl,i1,i2⟩
  dsimp only
  have hw:wr ((i:Int)+1)=((i+1:Nat):Int):=by rw [bB (by omega) (by omega)];omega
  refine ac.2 ⟨fun h5=>ac.2 ⟨fun e6=>?_,fun e6=>?_⟩,fun h5=>aH.2 ?_⟩
  · simp at h5
    have h0:t.1=0:=by simpa using e6
    have hsz:(dB (i:Int)).size≤21:=Lib.itoa_length_le (i:Int) (by omega) (by omega)
    simp only [jm (i:Int) ⟨by omega,by omega⟩,Qa,hw]
    refine ah.2 ⟨by simp;omega,ac.2 ⟨fun e7=>aH.2 ⟨rfl,plain e3 ?_,by dsimp only;omega,id,fun _=> .inl ⟨rfl,by dsimp only;constructor<;>omega⟩⟩,fun e7=>av.2 ⟨⟨i+1,rfl,by omega,fun _ j hj=>?_⟩,by dsimp only;omega⟩⟩⟩
    · obtain ⟨rfl,rfl⟩:=uniq i (by omega) (by omega) (eW.1 e7)
      rw [hst]
      rfl
    · by_cases e:j=i
      · subst e
        intro h
        rw [eW.2 h] at e7
        cases e7
      · exact i2 h0 j (by omega)
  · have h0:t.1≠0:=by simpa using e6
    simp at h5
    simp only [hw]
    exact av.2 ⟨⟨i+1,rfl,by omega,fun h=>absurd h h0⟩,by dsimp only;omega⟩
  · simp at h5
    by_cases h0:t.1=0
    · refine .inl ?_
      cases hbb:b with
      |false=>rfl
      |true=>
        obtain ⟨d0,d1,d2⟩:=c1 hbb
        exact absurd (by rw [show ((n.toNat:Nat):Int)=n by omega];exact d2) (i2 h0 n.toNat (by omega))
    · exact .inr h0
end Go.Proofs.Ytpoffnlnhdbpmaa
end
section
set_option maxRecDepth 100000
namespace Go.Proofs.Ytpoffnlnhdbpmaa
open Go Lv Go.Proofs Go.RowKit Go.Shelf
variable [Lk]
variable {L:List aX} {a:Int} {ok:Bool} {G H:Prop} {A:Type} {PF fail:Option A}
theorem ckT {α:Type} (x:Option α):ck true x=x:=rfl
theorem zu (b:Bool):cW.F (b,())=some (bif b then .inl () else .inr 70):=by
 cases b
 ·exact iY
 ·exact jG
omit [Lk] in
theorem St.no (s:St L a ok G H) (hg:G→PF=fail) (hh:H→PF=fail) {G':Prop}:St L a false G' (PF=fail):=s.up s.a0 s.a1 (fun e=>by cases e) fun _=>by
 cases h:ok with
 |true=>exact hg (s.g h)
 |false=>exact hh (s.h h)
theorem uN {k:(List aX×List ak×Unit)⊕Int→Option A} (s:St L a ok (PF=Option.bind (cv.F (dr L a,())) k) (PF=fail)) (hk:k (.inr 70)=fail):
 ∃e a' ok',cf.F (L,a,ok,())=some (L,a',ok',e,())∧St L a' ok' (PF=k (.inl (dr L a',e,()))) (PF=fail)∧a≤a'∧(ok'=true→ok=true)∧(ok'=true→∀n∈e,Sg n):=by
 suffices h:Tot (cf.F (L,a,ok,())) fun y=>y.1=L∧St L y.2.1 y.2.2.1 (PF=k (.inl (dr L y.2.1,y.2.2.2.1,()))) (PF=fail)∧a≤y.2.1∧(y.2.2.1=true→ok=true)∧(y.2.2.1=true→∀n∈y.2.2.2.1,Sg n) by
  obtain ⟨⟨L',a',ok',e,_⟩,e1,rfl,h2,h3⟩:=h
  exact ⟨e,a',ok',e1,h2,h3⟩
 rw [cf.eq];unfold cf.B
 rw [cv.eq] at s;unfold cv.B at s
 dsimp only at s ⊢
 rw [bA] at s
 obtain ⟨a1,o1,e1,s1,l1,w1⟩:=lZ s (fun l=>by simp only [iY,Qa];exact hk)
 simp only [e1,Qa]
 simp only [jG,Qa] at s1
 obtain ⟨body,s1,hb⟩:∃(body:(List ak)×(List aX)×Unit→Option (((List ak)×(List aX)×Unit)⊕(((List aX)×(List ak)×Unit)⊕Int))),
  St L a1 o1 (PF=Option.bind (aN body ([],dr L a1,())) k) (PF=fail)∧∀out m,out.length≤1000→∃Z,body (out,m,())=(Option.bind (aw.F ([⟨#[93]⟩],m,())) fun y3=>bif (!y3.1) then Option.bind (bH.F (y3.2.1,())) Z else ir (.inl (y3.2.1,out,())))∧(∀n,Z (.inr n)=ir (.inr n))∧
  ∀o n c d u m,Z (.inl (o,n,c,d,u,m,()))=bif decide (((out++ [(o,(n,(c,(d,u))))]).length:Int)≤(100:Int)) then il (out++ [(o,(n,(c,(d,u))))],m,()) else ir (.inr 70):=by
  refine ⟨_,s1,fun out m h=>⟨_,rfl,fun n=>rfl,fun o n c d u m=>?_⟩⟩
  have hble:Nat.ble (out.length+ [(o,(n,(c,(d,u))))].length) 2932031007402=true:=by simp;omega
  dsimp only
  simp only [hble,ckT,zu,Qa]
  cases decide (((out++ [(o,(n,(c,(d,u))))]).length:Int)≤(100:Int))<;>rfl
 refine dk (fun x=>102-x.1.length) (fun x=>∃out a' ok',x=(out,L,a',ok',())∧St L a' ok' (PF=Option.bind (aN body (out,dr L a',())) k) (PF=fail)∧out.length≤101∧(ok'=true→out.length≤100)∧a≤a'∧(ok'=true→ok=true)∧(ok'=true→∀n∈out,Sg n)) ⟨[],a1,o1,rfl,s1,by simp,by simp,l1,w1,by simp⟩ ?_
 rintro _ ⟨out,a2,o2,rfl,s2,i1,i2,l2,w2,g2⟩
 dsimp only
 refine ac.2 ⟨fun ho=>?_,fun ho=>aH.2 ⟨rfl,s2.up s2.a0 s2.a1 (fun e=>by rw [ho] at e;cases e) s2.h,l2,w2,g2⟩⟩
 have i2:=i2 ho
 obtain ⟨Z,hb,z1,z2⟩:=hb out (dr L a2) (by omega)
 rw [tA,hb,tC] at s2
 obtain ⟨b,a3,e3,s3,_,l3,_,_⟩:=lY s2
 simp only [e3,Qa]
 cases b with
 |true=>
  simp only [Bool.not_true,Qb]
  exact aH.2 ⟨rfl,s3,by dsimp only;omega,w2,g2⟩
 |false=>
  simp only [Bool.not_false,Qc] at s3 ⊢
  rw [tC] at s3
  obtain ⟨o,n,c,d,u,a4,o4,e4,s4,l4,w4,g4⟩:=CZ s3 (by rw [z1];exact hk)
  have hble:Nat.ble (out.length+ [(o,(n,(c,(d,u))))].length) 2932031007402=true:=by simp<;>omega
  simp only [e4,Qa,hble,ckT]
  rw [z2] at s4
  refine ac.2 ⟨fun h5=>av.2 ⟨⟨_,a4,false,rfl,?_,by simp;omega,fun e=>(by cases e),by omega,fun e=>(by cases e),fun e=>(by cases e)⟩,by dsimp only;simp;omega⟩,fun h5=>av.2 ⟨⟨_,a4,o4,rfl,?_,by simp;omega,fun _=>by simp at h5 ⊢;omega,by omega,fun e=>w2 (w4 e),fun e n hn=>?_⟩,by dsimp only;simp;omega⟩⟩
  ·have:decide (((out++ [(o,(n,(c,(d,u))))]).length:Int)≤(100:Int))=false:=by simp at h5 ⊢;omega
   rw [this] at s4
   exact s4.no (fun g=>g.trans hk) id
  ·have:decide (((out++ [(o,(n,(c,(d,u))))]).length:Int)≤(100:Int))=true:=by simp at h5 ⊢;omega
   rw [this] at s4
   exact s4
  ·rcases List.mem_append.1 hn with h|h
   ·exact g2 (w4 e) n h
   ·rw [List.mem_singleton.1 h];exact g4 e
theorem pD {k:(ByteArray×Int×Bool×Bool×ByteArray×Int×List aX×Unit)⊕Int→Option A} (s:St L a ok (PF=Option.bind (aU.F (dr L a,())) k) (PF=fail)) (hk:k (.inr 70)=fail):
 ∃c1 c2 c3 c4 c5 c6 a' ok',bQ.F (L,a,ok,())=some (c1,c2,c3,c4,c5,c6,L,a',ok',())∧St L a' ok' (PF=k (.inl (c1,c2,c3,c4,c5,c6,dr L a',()))) (PF=fail)∧a≤a'∧(ok'=true→ok=true):=by
 rw [bQ.eq];unfold bQ.B
 rw [aU.eq] at s;unfold aU.B at s
 dsimp only at s ⊢
 rw [bA] at s
 obtain ⟨v1,a1,o1,e1,s1,l1,w1⟩:=nW s hk
 simp only [e1,Qa]
 dsimp only at s1
 rw [bA] at s1
 obtain ⟨v2,a2,o2,e2,s2,l2,w2⟩:=vY s1 hk (by simp)
 simp only [e2,Qa]
 dsimp only at s2
 rw [bA] at s2
 obtain ⟨v3,a3,e3,s3,_,l3,_,_⟩:=lY s2
 simp only [e3,Qa]
 rw [bA] at s3
 obtain ⟨v4,a4,e4,s4,_,l4,_,_⟩:=lY s3
 simp only [e4,Qa]
 rw [bA] at s4
 obtain ⟨v5,a5,e5,s5,_,l5,_,_⟩:=lY s4
 simp only [e5,Qa]
 cases v5 with
 |false=>
  simp only [Qb] at s5 ⊢
  exact ⟨_,_,_,_,_,_,a5,o2,rfl,s5,by omega,fun e=>w1 (w2 e)⟩
 |true=>
  simp only [Qc] at s5 ⊢
  rw [bA] at s5
  obtain ⟨v6,a6,o6,e6,s6,l6,w6⟩:=nW s5 hk
  simp only [e6,Qa]
  dsimp only at s6
  rw [bA] at s6
  obtain ⟨v7,a7,o7,e7,s7,l7,w7⟩:=vY s6 hk (by simp)
  simp only [e7,Qa]
  exact ⟨_,_,_,_,_,_,a7,o7,rfl,s7,by omega,fun e=>w1 (w2 (w6 (w7 e)))⟩
omit [Lk] in
theorem St.tr {X:Type} (s:St L a ok G H) (x:Option X):St L a ok (Option.bind x (fun _=>(none:Option Unit))=Option.bind x fun _=>none) (Option.bind x (fun _=>(none:Option Unit))=none):=s.to (fun _=>rfl) (fun _=>by cases x<;>rfl)
omit [Lk] in
theorem St.of {a':Int} {ok':Bool} {N:Prop} {G' H':Prop} (s:St L a' ok' G H) (hN:¬N):St L a' ok' (N→G') (N→H'):=s.to (fun _ h=>absurd h hN) (fun _ h=>absurd h hN)
variable {N:Prop}
theorem C0 {p:ByteArray} {k:Bool×List aX×Unit→Option A} (s:St L a ok (N→PF=Option.bind (aw.F ([p],dr L a,())) k) (N→PF=fail)) (hk:N→∀l,k (false,l,())=fail):
 ∃a' ok',bP.F (p,L,a,ok,())=some (L,a',ok',())∧St L a' ok' (N→PF=k (true,dr L a',())) (N→PF=fail)∧a≤a'∧(ok'=true→ok=true):=by
 by_cases h:N
 ·obtain ⟨a',ok',e,s',r⟩:=lZ (s.to (fun g=>g h) fun g=>g h) (hk h)
  exact ⟨a',ok',e,s'.to (fun g _=>g) (fun g _=>g),r⟩
 ·obtain ⟨a',ok',e,s',r⟩:=lZ (s.tr _) fun _=>rfl
  exact ⟨a',ok',e,s'.of h,r⟩
theorem zw {k:(ByteArray×Int×Bool×Bool×ByteArray×Int×List aX×Unit)⊕Int→Option A} (s:St L a ok (N→PF=Option.bind (aU.F (dr L a,())) k) (N→PF=fail)) (hk:N→k (.inr 70)=fail):
 ∃c1 c2 c3 c4 c5 c6 a' ok',bQ.F (L,a,ok,())=some (c1,c2,c3,c4,c5,c6,L,a',ok',())∧St L a' ok' (N→PF=k (.inl (c1,c2,c3,c4,c5,c6,dr L a',()))) (N→PF=fail)∧a≤a'∧(ok'=true→ok=true):=by
 by_cases h:N
 ·obtain ⟨c1,c2,c3,c4,c5,c6,a',ok',e,s',r⟩:=pD (s.to (fun g=>g h) fun g=>g h) (hk h)
  exact ⟨_,_,_,_,_,_,a',ok',e,s'.to (fun g _=>g) (fun g _=>g),r⟩
 ·obtain ⟨c1,c2,c3,c4,c5,c6,a',ok',e,s',r⟩:=pD (s.tr _) rfl
  exact ⟨_,_,_,_,_,_,a',ok',e,s'.of h,r⟩
theorem C1 {k:(List aX×List ak×Unit)⊕Int→Option A} (s:St L a ok (N→PF=Option.bind (cv.F (dr L a,())) k) (N→PF=fail)) (hk:N→k (.inr 70)=fail):
 ∃e a' ok',cf.F (L,a,ok,())=some (L,a',ok',e,())∧St L a' ok' (N→PF=k (.inl (dr L a',e,()))) (N→PF=fail)∧a≤a'∧(ok'=true→ok=true)∧(ok'=true→∀n∈e,Sg n):=by
 by_cases h:N
 ·obtain ⟨x,a',ok',e,s',r⟩:=uN (s.to (fun g=>g h) fun g=>g h) (hk h)
  exact ⟨x,a',ok',e,s'.to (fun g _=>g) (fun g _=>g),r⟩
 ·obtain ⟨x,a',ok',e,s',r⟩:=uN (s.tr _) rfl
  exact ⟨x,a',ok',e,s'.of h,r⟩
theorem col_d {k:(Int×List aX×Unit)⊕Int→Option A} (s:St L a ok (N→PF=Option.bind (bI.F (dr L a,())) k) (N→PF=fail)) (hk:N→k (.inr 70)=fail):
 ∃v a' ok',ci.F (L,a,ok,())=some (v,L,a',ok',())∧St L a' ok' (N→PF=k (.inl (v,dr L a',()))) (N→PF=fail)∧a≤a'∧(ok'=true→ok=true):=by
 by_cases h:N
 ·obtain ⟨x,a',ok',e,s',r⟩:=qw (s.to (fun g=>g h) fun g=>g h) (hk h)
  exact ⟨x,a',ok',e,s'.to (fun g _=>g) (fun g _=>g),r⟩
 ·obtain ⟨x,a',ok',e,s',r⟩:=qw (s.tr _) rfl
  exact ⟨x,a',ok',e,s'.of h,r⟩
omit [Lk] in
theorem jn_bd {X S R:Type} (x:Option X) (f:X→Option (S⊕R)) (K:S→Option R):jn (Option.bind x f) K=Option.bind x fun v=>jn (f v) K:=by cases x<;>rfl
theorem tkP {p:ByteArray} {a:Int} (h0:0≤a) (hl:L.length≤20000):aw.F ([p],dr L a,())=some (tk p (dr L a),dr L (bif tk p (dr L a) then a+1 else a),()):=by
 rw [kz p (dr L a) (by simp;omega)]
 cases h:tk p (dr L a) with
 |false=>rfl
 |true=>
  rw [(lr h0 (pC h)).1]
  rfl
end Go.Proofs.Ytpoffnlnhdbpmaa
end
section
set_option maxRecDepth 100000
namespace Go.Proofs.Ytpoffnlnhdbpmaa
open Go Lv Go.Proofs Go.RowKit Go.Shelf
variable [Lk]
variable {L:List aX} {a:Int} {ok:Bool} {G H:Prop} {A:Type} {PF fail:Option A}
theorem uO {E SR RR SP RP : Type} {bodyR : SR → Option (SR ⊕ RR)} {stR : List E → Int → Bool → SR} {exR : List E → Int → Bool → RR} {bodyP : SP → Option (SP ⊕ RP)} {stP : List E → List aX → SP} {K : RP → Option A} {EX : List E → List aX → Option RP}
    {es0:List E} {N:Prop} (s:St L a ok (N→PF=Option.bind (aN bodyP (stP es0 (dr L a))) K) (PF=fail)) (hF:¬N→PF=fail) (h0:es0.length=1)
    (p0:N→∀es m,m.length≤20000→tk ⟨#[44]⟩ m=false→es.length≤40→bodyP (stP es m)=Option.map Sum.inr (EX es m))
    (p1:N→∀es m,m.length≤20000→tk ⟨#[44]⟩ m=true→es.length=40→lp bodyP K (bodyP (stP es m))=fail)
    (r0:∀es a,bodyR (stR es a false)=ir (exR es a false)) (r1:∀es a,0≤a→tk ⟨#[44]⟩ (dr L a)=false→bodyR (stR es a true)=ir (exR es a true))
    (st:∀es a,0≤a→a<(L.length:Int)→tk ⟨#[44]⟩ (dr L a)=true→es.length≤20001→St L (a+1) true (N∧es.length<40→PF=lp bodyP K (bodyP (stP es (dr L a)))) (N∧es.length<40→PF=fail)→
      ∃e a' ok',bodyR (stR es a true)=il (stR (es++ [e]) a' ok')∧St L a' ok' (N∧es.length<40→PF=Option.bind (aN bodyP (stP (es++ [e]) (dr L a'))) K) (N∧es.length<40→PF=fail)∧a+1≤a'):
    Tot (aN bodyR (stR es0 a ok)) fun y=>∃es a' ok',y=exR es a' ok'∧St L a' ok' (N∧es.length≤40→PF=Option.bind (EX es (dr L a')) K) (PF=fail)∧(40<es.length→PF=fail)∧(ok'=true→ok=true):=by
  suffices H:∀(n:Nat) es a ok,((L.length:Int)-a).toNat≤n→St L a ok (N∧es.length≤40→PF=Option.bind (aN bodyP (stP es (dr L a))) K) (PF=fail)→(40<es.length→PF=fail)→(es.length:Int)+(L.length-a)≤20001→Tot (aN bodyR (stR es a ok)) fun y=>∃es a' ok',y=exR es a' ok'∧St L a' ok' (N∧es.length≤40→PF=Option.bind (EX es (dr L a')) K) (PF=fail)∧(40<es.length→PF=fail)∧(ok'=true→ok=true) from
    H _ es0 a ok (Nat.le_refl _) (s.to (fun g h=>g h.1) id) (fun h=>by omega) (by have:=s.l;have:=s.a0;omega)
  clear s h0 es0
  intro n
  induction n with
  |zero=>
    intro es a ok hn s i0 i1
    have hd:¬a<(L.length:Int):=by omega
    have ht:tk ⟨#[44]⟩ (dr L a)=false:=by rw [lX hd];rfl
    rw [dC]
    cases ok with
    |false=>rw [r0];exact ⟨_,rfl,es,a,false,rfl,s.up s.a0 s.a1 (fun e=>by cases e) s.h,i0,fun e=>by cases e⟩
    |true=>
      rw [r1 es a s.a0 ht]
      refine ⟨_,rfl,es,a,true,rfl,s.to (fun g h=>?_) id,i0,fun _=>rfl⟩
      rw [g h,tA,p0 h.1 _ _ (by have:=s.l;simp;omega) ht h.2,lp_m]
  |succ n ih=>
    intro es a ok hn s i0 i1
    have a0:=s.a0
    have a1:=s.a1
    have sl:=s.l
    have hm:(dr L a).length≤20000:=by simp;omega
    rw [dC]
    cases ok with
    |false=>rw [r0];exact ⟨_,rfl,es,a,false,rfl,s.up s.a0 s.a1 (fun e=>by cases e) s.h,i0,fun e=>by cases e⟩
    |true=>
      cases ht:tk ⟨#[44]⟩ (dr L a) with
      |false=>
        rw [r1 es a s.a0 ht]
        refine ⟨_,rfl,es,a,true,rfl,s.to (fun g h=>?_) id,i0,fun _=>rfl⟩
        rw [g h,tA,p0 h.1 _ _ hm ht h.2,lp_m]
      |true=>
        have hlt:=pC ht
        obtain ⟨e,a',ok',h1,h2,h3⟩:=st es a a0 hlt ht (by omega) (s.up (by omega) (by omega) (fun _ h=>by rw [s.g rfl ⟨h.1,by omega⟩,tA]) fun e=>by cases e)
        rw [h1]
        have full:40≤es.length→PF=fail:=fun h=>by
          by_cases hN:N
          · by_cases h40:es.length=40
            · rw [s.g rfl ⟨hN,by omega⟩,tA,p1 hN _ _ hm ht h40]
            · exact i0 (by omega)
          · exact hF hN
        refine Tot.mono (ih (es++ [e]) a' ok' (by omega) (h2.up h2.a0 h2.a1 (fun e h=>h2.g e ⟨h.1,by have:=h.2;simp at this;omega⟩) fun e=>?_) (fun h=>full (by simp at h;omega)) (by simp;omega)) (fun y ⟨a,b,c,d,e,f,g⟩=>⟨a,b,c,d,e,f,fun _=>rfl⟩)
        by_cases h:N∧es.length<40
        · exact h2.h e h
        · by_cases hN:N
          · exact full (Nat.le_of_not_lt fun g=>h ⟨hN,g⟩)
          · exact hF hN
abbrev tTb:=ByteArray×(List aX)×(List aB)×(List (List ak))×Unit
abbrev tEs:=(List aX)×ByteArray×(List aB)×(List (List ak))×Unit
abbrev tCl:=Int×ByteArray×(List aB)×(List (List ak))×(List aX)×Unit
theorem Bc {k : tTb ⊕ Int → Option A} (s : St L a ok (PF = Option.bind (bG.F (dr L a,())) k) (PF = fail)) (hk : k (.inr 70) = fail) :
    ∃nm cs es a' ok',b8.F (L,a,ok,())=some (nm,L,a',ok',cs,es,())∧St L a' ok' (PF=k (.inl (nm,dr L a',cs,es,()))) (PF=fail)∧(ok'=true→∀e∈es,∀n∈e,Sg n):=by
  suffices h:Tot (b8.F (L,a,ok,())) fun y=>y.2.1=L∧St L y.2.2.1 y.2.2.2.1 (PF=k (.inl (y.1,dr L y.2.2.1,y.2.2.2.2.1,y.2.2.2.2.2.1,()))) (PF=fail)∧(y.2.2.2.1=true→∀e∈y.2.2.2.2.2.1,∀n∈e,Sg n) by
    obtain ⟨⟨nm,L',a',ok',cs,es,_⟩,e1,rfl,h2⟩:=h
    exact ⟨nm,cs,es,a',ok',e1,h2⟩
  rw [b8.eq];unfold b8.B
  rw [bG.eq] at s;unfold bG.B bG.b at s
  dsimp only at s ⊢
  rw [bA] at s
  obtain ⟨nm,a1,o1,e1,s1,l1,w1⟩:=nW s hk
  simp only [e1,Qa]
  dsimp only at s1
  rw [bA] at s1
  obtain ⟨a2,o2,e2,s2,l2,w2⟩:=lZ s1 (fun l=>by simp only [iY,Qa];exact hk)
  simp only [e2,Qa]
  simp only [jG,Qa,oi,tD,bA] at s2
  obtain ⟨c1,c2,c3,c4,c5,c6,a3,o3,e3,s3,l3,w3⟩:=pD s2 hk
  simp only [e3,Qa]
  have hb1:Nat.ble [(c1,(c2,(c3,(c4,(c5,c6)))))].length 2513169434916=true:=rfl
  refine ah.2 ⟨hb1,?_⟩
  dsimp only at s3
  simp only [hb1,ckT,il,Qa,jk_l] at s3
  obtain ⟨body,T,R1,s3,hb,t1,t2,r1⟩:∃(body:tCl→Option (tCl⊕(tTb⊕Int))) (T:Int→ByteArray→List aB→List (List ak)→List aX→(Bool×List aX×Unit)→Option (tCl⊕(tTb⊕Int))) (R1:Int→ByteArray→List aB→List (List ak)→List aX→(Bool×List aX×Unit)→Option (tTb⊕Int)),
      St L a3 o3 (PF=Option.bind (aN body (1,nm,[(c1,(c2,(c3,(c4,(c5,c6)))))],[],dr L a3,())) k) (PF=fail)∧
      (∀n nm cs es m,body (n,nm,cs,es,m,())=Option.bind (aw.F ([⟨#[44]⟩],m,())) fun y7=>bif y7.1 then T n nm cs es m y7 else Option.map Sum.inr (R1 n nm cs es m y7))∧
      (∀(i:Nat) nm cs es m y,i=40→T (i:Int) nm cs es m y=ir (.inr 70))∧
      (∀(i:Nat) nm cs es m y,i<40→cs.length=i→∃Z,T (i:Int) nm cs es m y=Option.bind (aU.F (y.2.1,())) Z∧(∀n,Z (.inr n)=ir (.inr n))∧∀c1 c2 c3 c4 c5 c6 m,Z (.inl (c1,c2,c3,c4,c5,c6,m,()))=il (((i+1:Nat):Int),nm,cs++ [(c1,(c2,(c3,(c4,(c5,c6)))))],es,m,()))∧
      (∀n nm cs es m y,∃Y:Bool×List aX×Unit→Option (tTb⊕Int),R1 n nm cs es m y=Option.bind (aw.F ([⟨#[41]⟩],y.2.1,())) Y∧(∀m,Y (false,m,())=some (.inr 70))∧∀m,∃(body2:tEs→Option (tEs⊕(tEs⊕(tTb⊕Int)))) (K:tEs→Option (tTb⊕Int)),Y (true,m,())=jn (aN body2 (m,nm,cs,es,())) K∧(∀m nm cs es,K (m,nm,cs,es,())=some (.inl (nm,m,cs,es,())))∧
        ∀m nm cs es,es.length≤40→∃V,body2 (m,nm,cs,es,())=Option.bind (aw.F ([⟨#[99,104,101,99,107]⟩],m,())) V∧(∀m,V (false,m,())=ir (.inl (m,nm,cs,es,())))∧∀m,∃W,V (true,m,())=Option.bind (cv.F (m,())) W∧(∀n,W (.inr n)=ir (.inr (.inr n)))∧∀e m,W (.inl (m,e,()))=bif decide (es.length<40) then il (m,nm,cs,es++ [e],()) else ir (.inr (.inr 70))):=by
    refine ⟨_,fun n nm cs es m y=>_,fun n nm cs es m y=>_,s3,fun n nm cs es m=>rfl,fun i nm cs es m y hi=>?_,fun i nm cs es m y hi hc=>?_,fun n nm cs es m y=>?_⟩
    · subst hi
      have:decide (wr (((40:Nat):Int)+1)≤(40:Int))=false:=by decide
      dsimp only
      simp only [this,iY,Qa]
    · have hw:wr ((i:Int)+1)=((i+1:Nat):Int):=by rw [bB (by omega) (by omega)];omega
      have hd:decide (((i+1:Nat):Int)≤(40:Int))=true:=by simp<;>omega
      dsimp only
      simp only [hw,hd,jG,Qa,oi]
      refine ⟨_,rfl,fun n=>rfl,fun c1 c2 c3 c4 c5 c6 m=>?_⟩
      have hble:Nat.ble (cs.length+ [(c1,(c2,(c3,(c4,(c5,c6)))))].length) 2513169434916=true:=by simp<;>omega
      dsimp only
      simp only [hble,ckT]
      rfl
    · dsimp only
      refine ⟨_,rfl,fun m=>?_,fun m=>?_⟩
      · dsimp only
        rw [iY]
        rfl
      · dsimp only
        rw [jG]
        refine ⟨_,_,rfl,fun m nm cs es=>rfl,fun m nm cs es he=>?_⟩
        refine ⟨_,rfl,fun m=>rfl,fun m=>?_⟩
        dsimp only
        simp only [Qc,oi]
        refine ⟨_,jn_bd _ _ _,fun n=>rfl,fun e m=>?_⟩
        · have hble:Nat.ble (es.length+ [e].length) 5864062014805=true:=by simp<;>omega
          dsimp only
          simp only [hble,ckT,il,jn,Qa,zu]
          by_cases h:es.length<40
          · have h1:decide (((es++ [e]).length:Int)≤(40:Int))=true:=by simp<;>omega
            rw [h1,decide_eq_true h]
            rfl
          · have h1:decide (((es++ [e]).length:Int)≤(40:Int))=false:=by simp<;>omega
            rw [h1,decide_eq_false h]
            rfl
  refine aY (fun x=>∃cs a' ok',x=(L,a',ok',nm,cs,[],())∧St L a' ok' (cs.length≤40→PF=Option.bind (R1 cs.length nm cs [] (dr L a') (false,dr L a',())) k) (PF=fail)∧(40<cs.length→PF=fail)) ?_ ?_
  · refine Tot.mono (uO (stR:=fun cs a ok=>(L,a,ok,nm,cs,[],())) (exR:=fun cs a ok=> .inl (L,a,ok,nm,cs,[],())) (stP:=fun cs m=>((cs.length:Int),nm,cs,[],m,())) (EX:=fun cs m=>R1 cs.length nm cs [] m (false,m,())) (s3.to (fun g (_:True)=>g) id) (fun h=>absurd trivial h) rfl ?_ ?_ ?_ ?_ ?_) ?_
    · intro _ cs m hm ht _
      rw [hb,kz _ m hm,ht]
      rfl
    · intro _ cs m hm ht h
      rw [hb,kz _ m hm,ht,Qa]
      simp only [Qc]
      rw [t1 _ _ _ _ _ _ h]
      exact hk
    · intro cs a
      rfl
    · intro cs a h0 ht
      dsimp only
      simp only [Qc,iI _ h0 s3.l,Qa,ht,Qb]
    · intro cs a h0 h1 ht hc s4
      obtain ⟨Z,s5,z1,z2⟩:∃Z:((ByteArray×Int×Bool×Bool×ByteArray×Int×List aX×Unit)⊕Int)→Option (tCl⊕(tTb⊕Int)),St L (a+1) true (cs.length<40→PF=Option.bind (aU.F (dr L (a+1),())) fun v=>lp body k (Z v)) (cs.length<40→PF=fail)∧(cs.length<40→∀n,Z (.inr n)=ir (.inr n))∧(cs.length<40→∀c1 c2 c3 c4 c5 c6 m,Z (.inl (c1,c2,c3,c4,c5,c6,m,()))=il (((cs.length+1:Nat):Int),nm,cs++ [(c1,(c2,(c3,(c4,(c5,c6)))))],[],m,())):=by
        by_cases h:cs.length<40
        · obtain ⟨Z,g1,g2,g3⟩:=t2 cs.length nm cs [] (dr L a) (true,dr L (a+1),()) h rfl
          refine ⟨Z,s4.to (fun g h=>?_) (fun g h=>g ⟨trivial,h⟩),fun _=>g2,fun _=>g3⟩
          rw [g ⟨trivial,h⟩,hb,tkP h0 s3.l,ht]
          simp only [Qc,Qa]
          rw [g1,tC]
        · exact ⟨fun _=>none,s4.of h,fun g=>absurd g h,fun g=>absurd g h⟩
      obtain ⟨d1,d2,d3,d4,d5,d6,a6,o6,e6,s6,l6,w6⟩:=zw s5 (fun h=>by rw [z1 h];exact hk)
      refine ⟨(d1,(d2,(d3,(d4,(d5,d6))))),a6,o6,?_,s6.to (fun g h=>?_) (fun g h=>g h.2),l6⟩
      · have hble:Nat.ble (cs.length+ [(d1,(d2,(d3,(d4,(d5,d6)))))].length) 2513169434916=true:=by simp<;>omega
        dsimp only
        simp only [Qc,iI _ h0 s3.l,Qa,ht,e6,hble,ckT]
      · rw [g h.2,z2 h.2,lp_l,List.length_append]
        rfl
    · rintro _ ⟨cs,a',ok',rfl,h1,h2,_⟩
      exact ⟨cs,a',ok',rfl,h1.to (fun g h=>g ⟨trivial,h⟩) id,h2⟩
  rintro _ ⟨cs,a4,o4,rfl,s4,i0⟩
  dsimp only
  obtain ⟨Y,r1,y1,y2⟩:=r1 cs.length nm cs [] (dr L a4) (false,dr L a4,())
  obtain ⟨a5,o5,e5,s5,l5,w5⟩:=C0 (N:=cs.length≤40) (PF:=PF) (fail:=fail) (p:=⟨#[41]⟩) (k:=fun v=>Option.bind (Y v) k) (s4.to (fun g h=>by rw [g h,r1,bA]) fun g _=>g) fun _ l=>by
    show Option.bind (Y (false,l,())) k=fail
    rw [y1]
    exact hk
  simp only [e5,Qa]
  obtain ⟨body2,K,y2,k1,b2⟩:=y2 (dr L a5)
  obtain ⟨K2,s5,k2⟩:∃K2:(tEs⊕(tTb⊕Int))→Option A,St L a5 o5 (cs.length≤40→PF=Option.bind (aN body2 (dr L a5,nm,cs,[],())) K2) (PF=fail)∧(∀m es,K2 (.inl (m,nm,cs,es,()))=k (.inl (nm,m,cs,es,())))∧∀n,K2 (.inr (.inr n))=k (.inr n):=by
    refine ⟨jk K k,s5.up s5.a0 s5.a1 (fun e h=>?_) (fun e=>?_),fun m es=>?_,fun n=>rfl⟩
    · rw [s5.g e h,y2,tD]
    · by_cases h:cs.length≤40
      · exact s5.h e h
      · exact i0 (by omega)
    · rw [jk_l,k1]
      rfl
  refine aY (fun x=>∃es a' ok',x=(L,a',ok',nm,cs,es,())∧St L a' ok' (cs.length≤40∧es.length≤40→PF=k (.inl (nm,dr L a',cs,es,()))) (PF=fail)∧(40<cs.length∨40<es.length→PF=fail)∧(ok'=true→∀e∈es,∀n∈e,Sg n)) ?_ ?_
  rotate_left 1
  · rintro _ ⟨es,a6,o6,rfl,s6,i6,g6⟩
    dsimp only
    refine ac.2 ⟨fun h=>ai.2 ⟨rfl,s6.up s6.a0 s6.a1 (fun e=>by cases e) fun _=>i6 (.inl (by simp at h;omega)),fun e=>by cases e⟩,fun h=>ac.2 ⟨fun h2=>ai.2 ⟨rfl,s6.up s6.a0 s6.a1 (fun e=>by cases e) fun _=>i6 (.inr (by simp at h2;omega)),fun e=>by cases e⟩,fun h2=>ai.2 ⟨rfl,s6.to (fun g=>g ⟨by simp at h;omega,by simp at h2;omega⟩) id,g6⟩⟩⟩
  refine dk (fun x=>((L.length:Int)-x.2.1).toNat) (fun x=>∃es a' ok',x=(L,a',ok',nm,cs,es,())∧St L a' ok' (cs.length≤40∧es.length≤40→PF=Option.bind (aN body2 (dr L a',nm,cs,es,())) K2) (PF=fail)∧(40<cs.length∨40<es.length→PF=fail)∧(ok'=true→∀e∈es,∀n∈e,Sg n)∧(es.length:Int)+(L.length-a')≤20001) ⟨[],a5,o5,rfl,s5.to (fun g h=>g h.1) id,fun h=>i0 (by simp at h;omega),by simp,by have:=s5.l;have:=s5.a0;simp;omega⟩ ?_
  rintro _ ⟨es,a6,o6,rfl,s6,i6,g6,i7⟩
  dsimp only
  have:=s6.a1
  have:=s6.a0
  refine ac.2 ⟨fun ho=>?_,fun ho=>aH.2 ⟨es,a6,o6,rfl,s6.up s6.a0 s6.a1 (fun e=>by rw [ho] at e;cases e) s6.h,i6,g6⟩⟩
  simp only [iI _ s6.a0 s6.l,Qa]
  refine ac.2 ⟨fun e=>?_,fun e=>?_⟩
  · simp only [e,Qc]
    have hlt:=pC e
    obtain ⟨W,s7,z1,z2⟩:∃W:((List aX×List ak×Unit)⊕Int)→Option (tEs⊕(tEs⊕(tTb⊕Int))),St L (a6+1) o6 (cs.length≤40∧es.length≤40→PF=Option.bind (cv.F (dr L (a6+1),())) fun v=>lp body2 K2 (W v)) (cs.length≤40∧es.length≤40→PF=fail)∧(cs.length≤40∧es.length≤40→∀n,W (.inr n)=ir (.inr (.inr n)))∧(cs.length≤40∧es.length≤40→∀e m,W (.inl (m,e,()))=bif decide (es.length<40) then il (m,nm,cs,es++ [e],()) else ir (.inr (.inr 70))):=by
      by_cases h:cs.length≤40∧es.length≤40
      · obtain ⟨V,v1,v2,v3⟩:=b2 (dr L a6) nm cs es h.2
        obtain ⟨W,g1,g2,g3⟩:=v3 (dr L (a6+1))
        refine ⟨W,s6.up (by omega) (by omega) (fun _ _=>?_) (fun e _=>s6.h e),fun _=>g2,fun _=>g3⟩
        rw [s6.g ho h,tA,v1,tkP s6.a0 s6.l,e]
        simp only [Qc,Qa]
        rw [g1,tC]
      · exact ⟨fun _=>none,s6.up (by omega) (by omega) (fun _ g=>absurd g h) (fun _ g=>absurd g h),fun g=>absurd g h,fun g=>absurd g h⟩
    obtain ⟨x,a8,o8,e8,s8,l8,w8,g8⟩:=C1 s7 (fun h=>by rw [z1 h,lp_r,k2.2];exact hk)
    simp only [e8,Qa]
    have full:cs.length≤40→es.length=40→o8=true→PF=fail:=fun h h2 h3=>by
      rw [s8.g h3 ⟨h,by omega⟩,z2 ⟨h,by omega⟩,decide_eq_false (by omega),Qb,lp_r,k2.2]
      exact hk
    refine ah.2 ⟨by simp;omega,av.2 ⟨⟨_,a8,o8,rfl,s8.up s8.a0 s8.a1 (fun e h=>?_) (fun e=>?_),fun h=>?_,fun e y hy=>?_,?_⟩,by have:=s8.a1;dsimp only;omega⟩⟩
    · obtain ⟨h1,h2⟩:=h
      have h2:es.length<40:=by simp at h2;omega
      rw [s8.g e ⟨h1,by omega⟩,z2 ⟨h1,by omega⟩,decide_eq_true h2,Qc,lp_l]
    · by_cases h:cs.length≤40∧es.length≤40
      · exact s8.h e h
      · exact i6 (by omega)
    · by_cases h9:40<cs.length∨40<es.length
      · exact i6 h9
      · simp at h
        cases ho8:o8 with
        |true=>exact full (by omega) (by omega) ho8
        |false=>exact s8.h ho8 ⟨by omega,by omega⟩
    · rcases List.mem_append.1 hy with h|h
      · exact g6 (w8 e) y h
      · rw [List.mem_singleton.1 h];exact g8 e
    · simp
      omega
  · simp only [e,Qb]
    refine aH.2 ⟨es,a6,o6,rfl,s6.to (fun g h=>?_) id,i6,g6⟩
    obtain ⟨V,v1,v2,v3⟩:=b2 (dr L a6) nm cs es h.2
    rw [g h,tA,v1,tkP s6.a0 s6.l,e]
    simp only [Qb,Qa]
    rw [v2,lp_r,k2.1]
end Go.Proofs.Ytpoffnlnhdbpmaa
end
