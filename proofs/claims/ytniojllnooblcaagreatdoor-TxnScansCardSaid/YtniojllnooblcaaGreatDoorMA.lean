import Derived.Test.YtniojllnooblcaaGreatDoorM9
import Derived.Test.YtniojllnooblcaaGreatDoorM8
set_option linter.all false
set_option linter.unusedVariables false
set_option linter.unusedSimpArgs false
set_option linter.unusedSectionVars false
section
section
namespace Go.Proofs.Ytniojllnooblcaa
open Go Lv Go.Proofs Go.RowKit Go.Shelf Dl
theorem rrun (p : UInt8 → Bool) (G : Int × Unit → Option (Bool × Unit)) (hG : ∀ c : UInt8,G ((c.toNat : Int),()) = some (p c,())) (s : ByteArray) (hs : s.size ≤ 100000000) (i : Nat) (hi : i ≤ s.size) {R Q : Type} (K : ((Int × Unit) ⊕ R) → Option Q) :
    Option.bind (loopM (S:=Int×Unit) (fun (x7',_)=>
  (bif (decide (x7'<(s.size:Int))) then
  bif (decide (0≤x7')&&decide (x7'<(s.size:Int))) then
  let e7:Int:=(byteAt s (Int.toNat x7'))
  Option.bind (G (e7,())) fun y8=>
  (bif y8.1 then
  let e9:Int:=(IntKind.i64.wrap (x7'+(1:Int)))
  some (.inl (e9,()))
  else
  some (.inr (.inl (x7',()))))
  else none
  else
  some (.inr (.inl (x7',()))))) ((i:Int),()):Option ((Int×Unit)⊕R)) K=K (.inl (((i+((lst s i).takeWhile p).length:Nat):Int),())):=by
  rw [loop_f (S:=Int×Unit) (m:=fun x=>s.size-x.1.toNat) (I:=fun x=>∃k:Nat,x.1=(k:Int)∧k≤s.size) (f:=fun x=> .inl (((x.1.toNat+((lst s x.1.toNat).takeWhile p).length:Nat):Int),())) ?_ _ ⟨i,rfl,hi⟩]
  · simp only [Option.bind_some,Int.toNat_natCast]
  · rintro ⟨b,⟨⟩⟩ ⟨k,hk',hle⟩
    simp only at hk'
    subst hk'
    simp only [Int.toNat_natCast]
    by_cases hlt:k<s.size
    · obtain ⟨c,r,e⟩:=lst_at hlt
      obtain ⟨_,e1,e2⟩:=lst_cons e
      have d1:decide ((k:Int)<(s.size:Int))=true:=by simp;omega
      have d0:decide (0≤(k:Int))=true:=by simp
      simp only [d1,d0,Bool.and_self,cond_true,e2,hG,Option.bind_some,wrap_s hlt (show s.size<9223372036854775808 by omega)]
      cases hb:p c with
      |true=>
        left
        simp only [cond_true]
        refine ⟨_,rfl,⟨k+1,rfl,by omega⟩,by simp only [Int.toNat_natCast];omega,?_⟩
        simp only [Int.toNat_natCast]
        rw [e1,e]
        simp only [List.takeWhile_cons,hb,if_true,List.length_cons]
        congr 3
        omega
      |false=>
        right
        simp only [cond_false]
        rw [e]
        simp only [List.takeWhile_cons,hb,Bool.false_eq_true,if_false,List.length_nil,Nat.add_zero]
    · right
      have:lst s k=[]:=by
        have:=lst_len s k
        exact List.length_eq_zero_iff.1 (by omega)
      have hd:decide ((k:Int)<(s.size:Int))=false:=by simp;omega
      simp only [this,hd,cond_false,List.takeWhile_nil,List.length_nil,Nat.add_zero]
theorem all_take {p:UInt8→Bool} (r:List UInt8):(r.takeWhile p).all p=true:=by
  induction r with
  |nil=>rfl
  |cons c r ih=>
    rw [List.takeWhile_cons]
    cases h:p c with
    |true=>simp [h,ih]
    |false=>simp
theorem isWord_run {c:UInt8} {r:List UInt8} (hl:letter c=true):isWord (bs (c::r.takeWhile inner))=decide ((c::r.takeWhile inner).length≤30):=by
  unfold isWord
  rw [bs_list]
  simp only [isWordL,hl,Bool.true_and]
  have:(c::r.takeWhile inner).all inner=true:=by
    rw [List.all_cons,all_take,Bool.and_true]
    simp [inner,hl]
  rw [this];rfl
theorem rLex_s (s : ByteArray) : R06_Lex.F (s,()) = some (if 20000 < s.size then (60,[],()) else lexR [] (lexS s.data.toList)) := by
  rw [R06_Lex.eq]
  unfold R06_Lex.B
  simp only []
  by_cases hb:20000<s.size
  · have:decide ((s.size:Int)>(20000:Int))=true:=by simp;omega
    simp only [this,cond_true,if_pos hb]
  · have : decide ((s.size : Int) > (20000 : Int)) = false := by simp; omega
    simp only [this,cond_false,if_neg hb]
    have hs:s.size≤100000000:=by omega
    refine (loop_f (S:=Int×(List tTokT)×Unit) (m:=fun x=>s.size-x.1.toNat)
      (I:=fun x=>∃k:Nat,x.1=(k:Int)∧k≤s.size∧x.2.1.length≤k)
      (f:=fun x=>lexR x.2.1 (lexS (lst s x.1.toNat))) ?_ _ ⟨0,rfl,by omega,by show 0≤_;omega⟩).trans ?_
    · rintro ⟨b,out,⟨⟩⟩ ⟨k,hk,hle,hlen⟩
      simp only at hk hlen
      subst hk
      simp only [Int.toNat_natCast]
      by_cases hlt:k<s.size
      · obtain ⟨c,r,e⟩:=lst_at hlt
        obtain ⟨_,e1,e2⟩:=lst_cons e
        have d1:decide ((k:Int)<(s.size:Int))=true:=by simp;omega
        have d0:decide (0≤(k:Int))=true:=by simp
        have w1:IntKind.i64.wrap ((k:Int)+(1:Int))=((k+1:Nat):Int):=wrap_s hlt (by omega)
        have w3:(decide ((k:Int)≤((k+1:Nat):Int))&&decide (((k+1:Nat):Int)≤(s.size:Int)))=true:=by simp only [Bool.and_eq_true,decide_eq_true_eq];omega
        have w4:s.extract k (k+1)=bs [c]:=by rw [ext_bs s k (k+1) (by omega),e];simp
        have c32:((c.toNat:Int)==(32:Int))=decide (c=32):=u8_eq c 32 (by decide)
        have c45:((c.toNat:Int)==(45:Int))=decide (c=45):=u8_eq c 45 (by decide)
        have c39:((c.toNat:Int)==(39:Int))=decide (c=39):=u8_eq c 39 (by decide)
        have fin:∀(x:Tok×List UInt8) (j:Nat),tokS (c::r)=some x→c≠32→k<j→j≤s.size→lst s j=x.2→
            (∃s',(bif (Nat.ble (out.length+ [(x.1.1,(x.1.2.1,(x.1.2.2.1,(x.1.2.2.2.1,x.1.2.2.2.2))))].length) 2513169434916) then
              some (.inl ((j:Int),(out++ [(x.1.1,(x.1.2.1,(x.1.2.2.1,(x.1.2.2.2.1,x.1.2.2.2.2))))]),())) else none:Option ((Int×(List tTokT)×Unit)⊕(Int×(List tTokT)×Unit)))=some (.inl s')∧
              (∃k':Nat,s'.1=(k':Int)∧k'≤s.size∧s'.2.1.length≤k')∧s.size-s'.1.toNat<s.size-k∧lexR s'.2.1 (lexS (lst s s'.1.toNat))=lexR out (lexS (lst s k))):=by
          intro x j hx h32 hj hj2 hl
          have d2:Nat.ble (out.length+ [(x.1.1,(x.1.2.1,(x.1.2.2.1,(x.1.2.2.2.1,x.1.2.2.2.2))))].length) 2513169434916=true:=by
            rw [Nat.ble_eq];simp;omega
          rw [d2]
          refine ⟨_,rfl,⟨j,rfl,hj2,by simp;omega⟩,by simp only [Int.toNat_natCast];omega,?_⟩
          simp only [Int.toNat_natCast]
          rw [e,lexS_cons r h32,hx,hl]
          simp only [Option.bind_some]
          cases lexS x.2 with
          |none=>rfl
          |some l=>simp [lexR]
        have bad:tokS (c::r)=none→c≠32→lexR out (lexS (lst s k))=((60:Int),[],()):=by
          intro hx h32
          rw [e,lexS_cons r h32,hx];rfl
        simp only [d1,d0,Bool.and_self,cond_true,w1,w3,Int.toNat_natCast,w4,e2,rSign_s,Option.bind_some,c32,Bool.true_and]
        by_cases h32:c=32
        · subst h32
          left
          simp only [decide_true,cond_true]
          refine ⟨_,rfl,⟨k+1,rfl,by omega,by simp only;omega⟩,by simp only [Int.toNat_natCast];omega,?_⟩
          simp only [Int.toNat_natCast]
          rw [e1,e,lexS_blank]
        · have htw:=takeWhile_drop (p:=inner) r
          have htd:=takeWhile_drop (p:=digit) r
          have hl1:=lst_len s (k+1)
          rw [e1] at hl1
          simp only [h32,decide_false,cond_false,rLetter_s,Option.bind_some]
          cases hl:letter c with
          |true=>
            simp only [cond_true]
            rw [rrun inner R06_Inner.F rInner_s s hs (k+1) (by omega)]
            rw [e1]
            have hx:s.extract k (k+1+(r.takeWhile inner).length)=bs (c::r.takeWhile inner):=by
              rw [ext_bs s k _ (by omega),e,show k+1+(r.takeWhile inner).length-k=(r.takeWhile inner).length+1 by omega,List.take_succ_cons,←takeWhile_eq_take]
            have d5:(decide ((k:Int)≤((k+1+(r.takeWhile inner).length:Nat):Int))&&decide (((k+1+(r.takeWhile inner).length:Nat):Int)≤(s.size:Int)))=true:=by
              simp only [Bool.and_eq_true,decide_eq_true_eq];omega
            have hwz:(bs (c::r.takeWhile inner)).size<1000000000000000000:=by rw [bs_size];simp only [List.length_cons];omega
            simp only [d0,d5,Bool.and_self,cond_true,Int.toNat_natCast,hx,rWord_s _ hwz,Option.bind_some,isWord_run hl]
            have ht:tokS (c::r)=if (c::r.takeWhile inner).length≤30 then some (wordT (c::r.takeWhile inner),r.dropWhile inner) else none:=by
              simp only [tokS,hl,if_true]
            by_cases hn:(c::r.takeWhile inner).length≤30
            · rw [if_pos hn] at ht
              left
              simp only [hn,decide_true,Bool.not_true,cond_false]
              exact fin (wordT (c::r.takeWhile inner),r.dropWhile inner) _ ht h32 (by omega) (by omega) (by
                show List.drop _ _=_
                rw [←List.drop_drop,dropWhile_eq_drop,show List.drop (k+1) s.data.toList=r from e1])
            · rw [if_neg hn] at ht
              right
              simp only [hn,decide_false,Bool.not_false,cond_true]
              rw [bad ht h32]
          | false =>
            simp only [cond_false]
            have hmid:∀{R:Type},(Option.bind (R06_Digit.F ((c.toNat:Int),())) fun y14=>
                (bif y14.1 then some (.inl (true,()))
                else (bif ((c.toNat:Int)==(45:Int)) then
                  (bif (decide (((k+1:Nat):Int)<(s.size:Int))) then
                    bif (decide (0≤((k+1:Nat):Int))&&decide (((k+1:Nat):Int)<(s.size:Int))) then
                    Option.bind (R06_Digit.F (byteAt s (k+1),())) fun y16=>some (.inl (y16.1,()))
                    else none
                  else some (.inl (false,())))
                  else some (.inl (false,())))):Option ((Bool×Unit)⊕R))=some (.inl (digit c||(decide (c=45)&&hdDigit r),())):=by
              intro R
              rw [rDigit_s,c45]
              simp only [Option.bind_some]
              cases digit c with
              |true=>rfl
              |false=>
                by_cases h45:c=45
                · simp only [h45,decide_true,cond_true,cond_false,Bool.false_or,Bool.true_and]
                  by_cases hlt2:k+1<s.size
                  · obtain ⟨d,q',e'⟩:=lst_at hlt2
                    obtain ⟨_,e1',e2'⟩:=lst_cons e'
                    rw [e1] at e'
                    subst e'
                    have d2:decide (((k+1:Nat):Int)<(s.size:Int))=true:=by simp only [decide_eq_true_eq];omega
                    have d3:decide (0≤((k+1:Nat):Int))=true:=by simp only [decide_eq_true_eq];omega
                    simp only [d2,d3,Bool.and_self,cond_true,e2',rDigit_s,Option.bind_some,hdDigit]
                  · have hq:r=[]:=List.length_eq_zero_iff.1 (by omega)
                    subst hq
                    have d2:decide (((k+1:Nat):Int)<(s.size:Int))=false:=by simp only [decide_eq_false_iff_not];omega
                    simp only [d2,cond_false,hdDigit]
                · simp only [h45,decide_false,cond_false,Bool.false_and,Bool.or_self]
            rw [hmid]
            simp only [Option.bind_some]
            cases hd:(digit c||(decide (c=45)&&hdDigit r)) with
            |true=>
              simp only [cond_true]
              rw [rrun digit R06_Digit.F rDigit_s s hs (k+1) (by omega)]
              rw [e1]
              have hx:s.extract k (k+1+(r.takeWhile digit).length)=bs (c::r.takeWhile digit):=by
                rw [ext_bs s k _ (by omega),e,show k+1+(r.takeWhile digit).length-k=(r.takeWhile digit).length+1 by omega,List.take_succ_cons,←takeWhile_eq_take]
              have d5:(decide ((k:Int)≤((k+1+(r.takeWhile digit).length:Nat):Int))&&decide (((k+1+(r.takeWhile digit).length:Nat):Int)≤(s.size:Int)))=true:=by
                simp only [Bool.and_eq_true,decide_eq_true_eq];omega
              have hnum:=rNumber_s c (r.takeWhile digit) (all_take r) (by
                simp only [Bool.or_eq_true,Bool.and_eq_true,decide_eq_true_eq] at hd
                refine hd.imp id fun h=>⟨h.1,?_⟩
                cases r with
                |nil=>exact absurd h.2 (by simp [hdDigit])
                |cons d r'=>simp only [hdDigit] at h;simp [List.takeWhile_cons,h.2]) (by simp only [List.length_cons];omega)
              have ht:tokS (c::r)=(numS (c::r.takeWhile digit)).map fun n=>(numT n,r.dropWhile digit):=by
                simp only [tokS,hl,hd,if_true,Bool.false_eq_true,if_false]
              simp only [d0,d5,Bool.and_self,cond_true,Int.toNat_natCast,hx]
              cases hn:numS (c::r.takeWhile digit) with
              |some n=>
                rw [hn] at hnum ht
                left
                rw [hnum]
                simp only [Option.bind_some,int_s,Bool.not_true,cond_false]
                exact fin (numT n,r.dropWhile digit) _ ht h32 (by omega) (by omega) (by
                  show List.drop _ _=_
                  rw [←List.drop_drop,dropWhile_eq_drop,show List.drop (k+1) s.data.toList=r from e1])
              |none=>
                rw [hn] at hnum ht
                obtain ⟨n,hnum⟩:=hnum
                right
                rw [hnum]
                simp only [Option.bind_some,int_s,Bool.not_false,cond_true]
                rw [bad ht h32]
            | false =>
              simp only [cond_false,c39]
              by_cases h39:c=39
              · subst h39
                have ht:tokS (39::r)=(textS r).bind fun x=>if x.1.length≤1000 then some (textT x.1,x.2) else none:=by
                  simp only [tokS,hl,hd,if_true,Bool.false_eq_true,if_false]
                simp only [decide_true,cond_true,rText_s s hs k e,Option.bind_some]
                cases hx:textS r with
                |none=>
                  rw [hx] at ht
                  right
                  simp only [txR,Bool.not_false,cond_true]
                  rw [bad ht h32]
                |some x=>
                  rw [hx] at ht
                  simp only [Option.bind_some] at ht
                  have hz:e0.size=0:=rfl
                  simp only [txR,hz,Nat.zero_add]
                  by_cases hn:x.1.length≤1000
                  · rw [if_pos hn] at ht
                    left
                    simp only [hn,decide_true,Bool.not_true,cond_false]
                    obtain ⟨a1,a2⟩:=textS_src _ r (Nat.le_refl _) x hx
                    have hj:=lst_of_len (s:=s) (i:=k+1) (r:=x.2) (j:=s.size-x.2.length) ⟨dbl x.1++ [39],by rw [e1,a1];simp⟩ (by omega) rfl
                    have he:e0++bs x.1=bs x.1:=by rw [show e0=bs [] from rfl,bs_app];rfl
                    rw [he]
                    exact fin (textT x.1,x.2) _ ht h32 (by omega) (by omega) hj.1
                  · rw [if_neg hn] at ht
                    right
                    simp only [hn,decide_false,Bool.not_false,cond_true]
                    rw [bad ht h32]
              · have ht:tokS (c::r)=if c∈signs then some (signT c,r) else none:=by
                  simp only [tokS,hl,hd,h39,Bool.false_eq_true,if_false]
                simp only [h39,decide_false,cond_false]
                by_cases hg:c∈signs
                · rw [if_pos hg] at ht
                  left
                  simp only [hg,decide_true,Bool.not_true,cond_false]
                  exact fin (signT c,r) (k+1) ht h32 (by omega) (by omega) e1
                · rw [if_neg hg] at ht
                  right
                  simp only [hg,decide_false,Option.bind_some,Bool.not_false,cond_true]
                  rw [bad ht h32]
      · right
        have hd:decide ((k:Int)<(s.size:Int))=false:=by simp;omega
        have:lst s k=[]:=by
          have:=lst_len s k
          exact List.length_eq_zero_iff.1 (by omega)
        rw [this]
        simp only [hd,cond_false]
        simp [lexS_nil,lexR]
    · rfl
end Go.Proofs.Ytniojllnooblcaa
end
section
namespace Go.Proofs.Ytniojllnooblcaa
open Go Lv Go.Proofs Go.RowKit Go.Shelf Dl
abbrev TL (L:List Tok):Prop:=L.length≤100000000∧AllOk L
/--what a part of the reference's parser does,from place k with all right (ok) so far -/
structure Rf {α:Type} (p:List Tok→Option (α×List Tok)) (L:List Tok) (k:Nat) (ok:Bool) (v:α) (k':Nat) (ok':Bool):Prop where
  le:k≤k'
  hi:k'≤L.length
  no:ok=false→ok'=false
  yes:ok=true→p (L.drop k)=bif ok' then some (v,L.drop k') else none
abbrev tkb (s:ByteArray) (L:List Tok) (k:Nat):Bool:=(tk s (L.drop k)).isSome
theorem tkb_some {s:ByteArray} {L:List Tok} {k:Nat} (h:tkb s L k=true):k<L.length∧tk s (L.drop k)=some (L.drop (k+1)):=by
  by_cases hk:k<L.length
  · refine ⟨hk,?_⟩
    unfold tkb at h
    rw [List.drop_eq_getElem_cons hk] at h ⊢
    simp only [tk] at h ⊢
    split
    · rfl
    · rename_i hn;rw [if_neg hn] at h;cases h
  · unfold tkb at h
    rw [List.drop_eq_nil_of_le (by omega)] at h
    cases h
theorem tkb_none {s:ByteArray} {L:List Tok} {k:Nat} (h:tkb s L k=false):tk s (L.drop k)=none:=by
  cases e:tk s (L.drop k) with
  |none=>rfl
  |some r=>unfold tkb at h;rw [e] at h;cases h
theorem rIs_s (s:ByteArray) (L:List Tok) (k:Nat) (ok:Bool):R07_Parser_is.F (s,L,(k:Int),ok,())=some (tkb s L k,L,(k:Int),ok,()):=by
  rw [R07_Parser_is.eq]
  unfold R07_Parser_is.B
  by_cases hk:k<L.length
  · have d1:decide ((k:Int)<(L.length:Int))=true:=by simp;omega
    have d0:decide (0≤(k:Int))=true:=by simp
    simp only [d1,d0,Bool.and_self,cond_true,Int.toNat_natCast,getD_at hk,beq_bytes,i_ne]
    unfold tkb
    rw [List.drop_eq_getElem_cons hk]
    simp only [tk]
    by_cases h1:L[k].1=1
    · simp [h1]
    · by_cases h2:L[k].2.1=s<;>simp [h1,h2]
  · have d1:decide ((k:Int)<(L.length:Int))=false:=by simp;omega
    simp only [d1,cond_false]
    unfold tkb
    rw [List.drop_eq_nil_of_le (by omega)]
    rfl
abbrev kI (b:Bool) (k:Nat):Nat:=bif b then k+1 else k
theorem rTake_s (s:ByteArray) (L:List Tok) (hL:TL L) (k:Nat) (ok:Bool) (hk:k≤L.length):R07_Parser_take.F (s,L,(k:Int),ok,())=some (tkb s L k,L,((kI (tkb s L k) k:Nat):Int),ok,()):=by
  rw [R07_Parser_take.eq]
  unfold R07_Parser_take.B
  have w:IntKind.i64.wrap ((k:Int)+1)=((k+1:Nat):Int):=by have:=hL.1;rw [i64_wrap]<;>omega
  simp only [rIs_s,Option.bind_some,w]
  cases tkb s L k<;>rfl
theorem kI_le {s:ByteArray} {L:List Tok} {k:Nat} (hk:k≤L.length):k≤kI (tkb s L k) k∧kI (tkb s L k) k≤L.length:=by
  cases h:tkb s L k with
  |false=>exact ⟨Nat.le_refl _,hk⟩
  |true=>have:=(tkb_some h).1;exact ⟨by show k≤k+1;omega,by show k+1≤_;omega⟩
theorem rNeed_s (s:ByteArray) (L:List Tok) (hL:TL L) (k:Nat) (ok:Bool) (hk:k≤L.length):R07_Parser_need.F (s,L,(k:Int),ok,())=some (L,((kI (tkb s L k) k:Nat):Int),ok&&tkb s L k,()):=by
  rw [R07_Parser_need.eq]
  unfold R07_Parser_need.B
  simp only [rTake_s s L hL k ok hk,Option.bind_some]
  cases tkb s L k<;>simp
theorem tk_len1 {s:ByteArray} {l r:List Tok} (h:tk s l=some r):r.length+1=l.length:=by
  cases l with
  |nil=>cases h
  |cons t l=>
    simp only [tk] at h
    split at h
    · cases h;simp
    · cases h
theorem oneS_len1:∀{ws:List ByteArray} {i:Int} {l:List Tok} {x},oneS i ws l=some x→x.2.length+1=l.length:=by
  intro ws
  induction ws with
  |nil=>intro i l x h;cases h
  |cons w ws ih=>
    intro i l x h
    simp only [oneS] at h
    split at h
    · rename_i r hr
      cases h
      exact tk_len1 hr
    · exact ih h
theorem rOne_s (ws : List ByteArray) (hw : ws.length < 1000) (L : List Tok) (hL : TL L) (k : Nat) (ok : Bool) (hk : k ≤ L.length) :
    ∃(v:Int) (k':Nat) (ok':Bool),R07_Parser_one.F (ws,L,(k:Int),ok,())=some (v,L,(k':Int),ok',())∧Rf (oneS 0 ws) L k ok v k' ok'∧0≤v∧v≤(ws.length:Int):=by
  have key:R07_Parser_one.F (ws,L,(k:Int),ok,())=some (match oneS 0 ws (L.drop k) with
      |some y=>(y.1,L,((k+1:Nat):Int),ok,())
      |none=>(0,L,(k:Int),false,())):=by
    rw [R07_Parser_one.eq]
    unfold R07_Parser_one.B
    simp only []
    rw [loop_f (S:=Int×(List tTokT)×Int×Bool×Unit) (m:=fun x=>ws.length-x.1.toNat) (I:=fun x=>(∃i:Nat,x.1=(i:Int)∧i≤ws.length)∧x.2=(L,(k:Int),ok,()))
      (f:=fun x=>match oneS x.1 (ws.drop x.1.toNat) (L.drop k) with
        |some y=> .inr (y.1,L,((k+1:Nat):Int),ok,())
        |none=> .inl (L,(k:Int),ok,())) ?_ _ ⟨⟨0,rfl,by omega⟩,rfl⟩]
    · simp only [Option.bind_some,Int.toNat_zero,List.drop_zero]
      cases oneS 0 ws (L.drop k)<;>rfl
    · rintro ⟨x,a,b,c,⟨⟩⟩ ⟨⟨i,hi,hle⟩,ha⟩
      simp only [Prod.mk.injEq,and_true] at hi ha
      obtain ⟨rfl,rfl,rfl⟩:=ha
      subst hi
      simp only [Int.toNat_natCast]
      by_cases hlt:i<ws.length
      · have d1:decide ((i:Int)<(ws.length:Int))=true:=by simp;omega
        have d0:decide (0≤(i:Int))=true:=by simp
        simp only [d1,d0,Bool.and_self,cond_true,getD_at hlt,rTake_s _ a hL k c hk,Option.bind_some]
        rw [List.drop_eq_getElem_cons hlt]
        simp only [oneS]
        cases h:tkb ws[i] a k with
        |true=>
          right
          rw [(tkb_some h).2]
          rfl
        |false=>
          left
          rw [tkb_none h]
          simp only [cond_false,wrap_s hlt (show ws.length<9223372036854775808 by omega)]
          refine ⟨_,rfl,⟨⟨i+1,rfl,by omega⟩,rfl⟩,by simp only [Int.toNat_natCast];omega,?_⟩
          simp only [Int.toNat_natCast]
          rfl
      · right
        have d1:decide ((i:Int)<(ws.length:Int))=false:=by simp;omega
        simp only [d1,cond_false]
        rw [List.drop_eq_nil_of_le (by omega)]
        rfl
  cases h:oneS 0 ws (L.drop k) with
  |none=>
    rw [h] at key
    exact ⟨0,k,false,key,⟨Nat.le_refl _,hk,fun _=>rfl,fun _=>by rw [h];rfl⟩,by omega,by omega⟩
  |some y=>
    rw [h] at key
    have hlen:y.2.length+1=(L.drop k).length:=oneS_len1 h
    have hsuf:=oneS_suf h
    obtain ⟨hle1,hle2⟩:=oneS_le h
    have hk1:k+1≤L.length:=by rw [List.length_drop] at hlen;omega
    refine ⟨y.1,k+1,ok,key,⟨by omega,hk1,fun h=>h,fun h1=>?_⟩,by omega,by omega⟩
    rw [h,h1]
    have:y.2=L.drop (k+1):=by
      obtain ⟨q,hq⟩:=hsuf
      have h1:q.length=1:=by have:=congrArg List.length hq;rw [List.length_append] at this;omega
      have h2:(L.drop k).drop 1=y.2:=by rw [←hq,←h1,List.drop_left]
      rw [List.drop_drop] at h2
      exact h2.symm
    show some y=some (y.1,L.drop (k+1))
    rw [←this]
theorem rNext_s (L:List Tok) (hL:TL L) (k:Nat) (ok:Bool) (hk:k≤L.length):
    R07_Parser_next.F (L,(k:Int),ok,())=some (match L.drop k with
      | []=>((-1:Int),e0,(0:Int),(0:Int),e0,L,(k:Int),false,())
      |t::_=>(t.1,t.2.1,t.2.2.1,t.2.2.2.1,t.2.2.2.2,L,((k+1:Nat):Int),ok,())):=by
  rw [R07_Parser_next.eq]
  unfold R07_Parser_next.B
  by_cases h:k<L.length
  · have d1:decide ((k:Int)≥(L.length:Int))=false:=by simp;omega
    have w1:IntKind.i64.wrap ((k:Int)+(1:Int))=((k+1:Nat):Int):=by have:=hL.1;rw [i64_wrap]<;>omega
    have w2:IntKind.i64.wrap (((k+1:Nat):Int)-(1:Int))=(k:Int):=by have:=hL.1;rw [i64_wrap]<;>omega
    have d2:(decide (0≤(k:Int))&&decide ((k:Int)<(L.length:Int)))=true:=by simp;omega
    simp only [d1,cond_false,w1,w2,d2,cond_true,Int.toNat_natCast,getD_at h]
    rw [List.drop_eq_getElem_cons h]
  · have d1:decide ((k:Int)≥(L.length:Int))=true:=by simp;omega
    simp only [d1,cond_true]
    rw [List.drop_eq_nil_of_le (by omega)]
theorem drop_cons {L:List Tok} {k:Nat} {t:Tok} {r:List Tok} (h:L.drop k=t::r):k<L.length∧r=L.drop (k+1)∧t∈L:=by
  have hk:k<L.length:=by
    rcases Nat.lt_or_ge k L.length with hk|hk
    · exact hk
    · rw [List.drop_eq_nil_of_le hk] at h;cases h
  rw [List.drop_eq_getElem_cons hk] at h
  cases h
  exact ⟨hk,rfl,List.getElem_mem hk⟩
theorem rName_p (L : List Tok) (hL : TL L) (k : Nat) (ok : Bool) (hk : k ≤ L.length) :
    ∃(v:ByteArray) (k':Nat) (ok':Bool),R07_Parser_name.F (L,(k:Int),ok,())=some (v,L,(k':Int),ok',())∧Rf nameS L k ok v k' ok':=by
  rw [R07_Parser_name.eq]
  unfold R07_Parser_name.B
  simp only [rNext_s L hL k ok hk,Option.bind_some]
  cases h:L.drop k with
  |nil=>
    refine ⟨e0,k,false,?_,Nat.le_refl _,hk,fun _=>rfl,fun _=>by rw [h];rfl⟩
    rfl
  |cons t r=>
    obtain ⟨h1,h2,h3⟩:=drop_cons h
    have hz:t.2.1.size<1000000000000000000:=by have:=tok_size (hL.2 t h3);omega
    simp only [rName_s t.2.1 hz,Option.bind_some,i_ne]
    by_cases h0:t.1=0
    · cases hn:isName t.2.1 with
      |true=>
        refine ⟨t.2.1,k+1,ok,?_,by omega,h1,fun h=>h,fun e=>?_⟩
        · simp [h0]
        · rw [h,e];simp [nameS,h0,hn,h2]
      |false=>
        refine ⟨t.2.1,k+1,false,?_,by omega,h1,fun _=>rfl,fun e=>?_⟩
        · simp [h0]
        · rw [h];simp [nameS,hn]
    · refine ⟨t.2.1,k+1,false,?_,by omega,h1,fun _=>rfl,fun e=>?_⟩
      · simp [h0]
      · rw [h];simp [nameS,h0]
theorem rCol_p (L : List Tok) (hL : TL L) (k : Nat) (ok : Bool) (hk : k ≤ L.length) :
    ∃(v:Int) (k':Nat) (ok':Bool),R07_Parser_col.F (L,(k:Int),ok,())=some (v,L,(k':Int),ok',())∧Rf colS L k ok v k' ok':=by
  rw [R07_Parser_col.eq]
  unfold R07_Parser_col.B
  simp only [rNext_s L hL k ok hk,Option.bind_some]
  cases h:L.drop k with
  |nil=>
    refine ⟨0,k,false,?_,Nat.le_refl _,hk,fun _=>rfl,fun _=>by rw [h];rfl⟩
    rfl
  |cons t r=>
    obtain ⟨h1,h2,h3⟩:=drop_cons h
    simp only [i_ne]
    by_cases g:t.1=1∧t.2.2.1=2∧0≤t.2.2.2.1∧t.2.2.2.1≤99
    · obtain ⟨g1,g2,g3,g4⟩:=g
      refine ⟨t.2.2.2.1,k+1,ok,?_,by omega,h1,fun h=>h,fun e=>?_⟩
      · have a1:decide (t.2.2.2.1<(0:Int))=false:=by simp;omega
        have a2:decide (t.2.2.2.1>(99:Int))=false:=by simp;omega
        simp only [g1,g2,a1,a2,decide_true,Bool.not_true,cond_false,Option.bind_some]
      · rw [h,e];simp [colS,g1,g2,g3,g4,h2]
    · refine ⟨t.2.2.2.1,k+1,false,?_,by omega,h1,fun _=>rfl,fun e=>?_⟩
      · by_cases g1:t.1=1
        · by_cases g2:t.2.2.1=2
          · by_cases g3:t.2.2.2.1<0
            · simp only [g1,g2,decide_true,Bool.not_true,cond_false,decide_eq_true g3,cond_true,Option.bind_some]
            · have a1:decide (t.2.2.2.1<(0:Int))=false:=by simp;omega
              have a2:decide (t.2.2.2.1>(99:Int))=true:=by
                rw [decide_eq_true_eq]
                rcases Int.lt_or_le 99 t.2.2.2.1 with h|h
                · exact h
                · exact absurd ⟨g1,g2,by omega,h⟩ g
              simp only [g1,g2,a1,a2,decide_true,Bool.not_true,cond_false,cond_true,Option.bind_some]
          · simp only [g1,g2,decide_true,decide_false,Bool.not_true,Bool.not_false,cond_false,cond_true,Option.bind_some]
        · simp only [g1,decide_false,Bool.not_false,cond_true,Option.bind_some]
      · rw [h];simp only [colS];rw [if_neg g];rfl
end Go.Proofs.Ytniojllnooblcaa
end
section
namespace Go.Proofs.Ytniojllnooblcaa
open Go Lv Go.Proofs Go.RowKit Go.Shelf Dl
theorem flag_d (s:ByteArray) (L:List Tok) (k:Nat):flag s (L.drop k)=(tkb s L k,L.drop (kI (tkb s L k) k)):=by
  cases h:tkb s L k with
  |true=>exact flag_some (tkb_some h).2
  |false=>exact flag_none (tkb_none h)
theorem rColumn_p (L : List Tok) (hL : TL L) (k : Nat) (ok : Bool) (hk : k ≤ L.length) :
    ∃(v:Col) (k':Nat) (ok':Bool),R07_Parser_column.F (L,(k:Int),ok,())=some (v.1,v.2.1,v.2.2.1,v.2.2.2.1,v.2.2.2.2.1,v.2.2.2.2.2,L,(k':Int),ok',())∧Rf columnS L k ok v k' ok':=by
  rw [R07_Parser_column.eq]
  unfold R07_Parser_column.B
  simp only []
  obtain ⟨v1,k1,o1,e1,r1⟩:=rName_p L hL k ok hk
  rw [e1]
  simp only [Option.bind_some]
  obtain ⟨v2,k2,o2,e2,r2,g1,g2⟩:=rOne_s kinds (by decide) L hL k1 o1 r1.hi
  have g2':v2≤3:=g2
  have hw:IntKind.i64.wrap ((1:Int)+v2)=1+v2:=by rw [i64_wrap]<;>omega
  rw [e2]
  simp only [Option.bind_some,hw]
  have q3:=kI_le (s:=(⟨#[110,117,108,108]⟩:ByteArray)) r2.hi
  rw [rTake_s _ L hL k2 o2 r2.hi]
  simp only [Option.bind_some]
  have q4:=kI_le (s:=(⟨#[117,110,105,113,117,101]⟩:ByteArray)) q3.2
  rw [rTake_s _ L hL _ o2 q3.2]
  simp only [Option.bind_some]
  have q5:=kI_le (s:=(⟨#[114,101,102]⟩:ByteArray)) q4.2
  rw [rTake_s _ L hL _ o2 q4.2]
  simp only [Option.bind_some]
  generalize hb3:tkb (⟨#[110,117,108,108]⟩:ByteArray) L k2=b3 at q3 q4 q5 ⊢
  generalize hk3:kI b3 k2=k3 at q3 q4 q5 ⊢
  generalize hb4:tkb (⟨#[117,110,105,113,117,101]⟩:ByteArray) L k3=b4 at q4 q5 ⊢
  generalize hk4:kI b4 k3=k4 at q4 q5 ⊢
  have f3:flag (⟨#[110,117,108,108]⟩:ByteArray) (L.drop k2)=(b3,L.drop k3):=by rw [flag_d,hb3,hk3]
  have f4:flag (⟨#[117,110,105,113,117,101]⟩:ByteArray) (L.drop k3)=(b4,L.drop k4):=by rw [flag_d,hb4,hk4]
  have c1:=r1.le
  have c2:=r2.le
  cases hb5:tkb (⟨#[114,101,102]⟩:ByteArray) L k4 with
  |false=>
    simp only [cond_false]
    refine ⟨(v1,(1+v2,(b3,(b4,(e0,0))))),k4,o2,rfl,by omega,q4.2,fun h=>r2.no (r1.no h),fun h=>?_⟩
    unfold columnS
    rw [r1.yes h]
    cases o1 with
    |false=>rw [r2.no rfl];rfl
    |true=>
      simp only [cond_true,Option.bind_some]
      rw [r2.yes rfl]
      cases o2 with
      |false=>rfl
      |true=>
        simp only [cond_true,Option.bind_some,f3,f4]
        unfold refS
        rw [tkb_none hb5]
        rfl
  |true=>
    obtain ⟨s1,s2⟩:=tkb_some hb5
    have hk5:kI true k4=k4+1:=rfl
    simp only [cond_true,hk5]
    obtain ⟨v6,k6,o6,e6,r6⟩:=rName_p L hL (k4+1) o2 (by omega)
    rw [e6]
    simp only [Option.bind_some]
    obtain ⟨v7,k7,o7,e7,r7,_,_⟩:=rOne_s acts (by decide) L hL k6 o6 r6.hi
    rw [e7]
    simp only [Option.bind_some]
    have c6:=r6.le
    have c7:=r7.le
    refine ⟨(v1,(1+v2,(b3,(b4,(v6,v7))))),k7,o7,rfl,by omega,r7.hi,fun h=>r7.no (r6.no (r2.no (r1.no h))),fun h=>?_⟩
    unfold columnS
    rw [r1.yes h]
    cases o1 with
    |false=>rw [r7.no (r6.no (r2.no rfl))];rfl
    |true=>
      simp only [cond_true,Option.bind_some]
      rw [r2.yes rfl]
      cases o2 with
      |false=>rw [r7.no (r6.no rfl)];rfl
      |true=>
        simp only [cond_true,Option.bind_some,f3,f4]
        unfold refS
        rw [s2]
        simp only
        rw [r6.yes rfl]
        cases o6 with
        |false=>rw [r7.no rfl];rfl
        |true=>
          simp only [cond_true,Option.bind_some]
          rw [r7.yes rfl]
          cases o7<;>rfl
theorem truth_s (b:Bool):R01_Truth.F (b,())=some (1,(bif b then 1 else 0),e0,()):=by
  rw [R01_Truth.eq]
  cases b<;>rfl
/--the number of a column's name,as the reference looks for it -/
def colN (b:ByteArray):Option Int:=colP b.data.toList
theorem colN_iff (b:ByteArray) (n:Nat) (hn:n<100):b=(⟨#[99]⟩:ByteArray)++bs (Lib.itoa (n:Int))↔colN b=some (n:Int):=by
  have hat:Lib.atoiAll (Lib.itoa (n:Int))=.ok (n:Int):=by
    have:∀n:Nat,n<100→Lib.atoiAll (Lib.itoa (n:Int))=.ok (n:Int):=by decide+kernel
    exact this n hn
  constructor
  · intro h
    subst h
    unfold colN
    have e:((⟨#[99]⟩:ByteArray)++bs (Lib.itoa (n:Int))).data.toList=99::Lib.itoa (n:Int):=by simp
    rw [e]
    simp only [colP,if_true,hat]
    rw [if_pos ⟨by omega,trivial⟩]
  · intro h
    have:=(colP_spec h).1
    apply Go.WideShapes.bytes_inj
    rw [this]
    simp
theorem colN_range {b:ByteArray} {m:Int} (h:colN b=some m) (hb:∀x∈b.data.toList,x≠45):∃n:Nat,n<100∧m=(n:Int):=by
  obtain ⟨h1,h2⟩:=colP_spec h
  have h0:0≤m:=by
    rcases Int.lt_or_le m 0 with hm|hm
    · exfalso
      apply hb 45 _ rfl
      rw [h1]
      unfold Lib.itoa
      rw [if_pos hm]
      simp
    · exact hm
  exact ⟨m.toNat,by omega,by omega⟩
end Go.Proofs.Ytniojllnooblcaa
end
section
namespace Go.Proofs.Ytniojllnooblcaa
open Go Lv Go.Proofs Go.RowKit Go.Shelf Dl
abbrev opW:List ByteArray:=[(⟨#[43]⟩:ByteArray),(⟨#[45]⟩:ByteArray),(⟨#[42]⟩:ByteArray),(⟨#[61]⟩:ByteArray),(⟨#[60]⟩:ByteArray),(⟨#[97,110,100]⟩:ByteArray),(⟨#[111,114]⟩:ByteArray),(⟨#[110,111,116]⟩:ByteArray)]
theorem words_op (t:Tok) (r:List Tok) (h1:t.1≠1):oneS 0 opW (t::r)=(opOf t.2.1).map fun op=>(op-2,r):=by
  simp only [oneS,tk,opOf]
  generalize t.2.1=b
  by_cases a1:b=(⟨#[43]⟩:ByteArray)
  · subst a1;simp [h1]
  by_cases a2:b=(⟨#[45]⟩:ByteArray)
  · subst a2;simp [h1]
  by_cases a3:b=(⟨#[42]⟩:ByteArray)
  · subst a3;simp [h1]
  by_cases a4:b=(⟨#[61]⟩:ByteArray)
  · subst a4;simp [h1]
  by_cases a5:b=(⟨#[60]⟩:ByteArray)
  · subst a5;simp [h1]
  by_cases a6:b=(⟨#[97,110,100]⟩:ByteArray)
  · subst a6;simp [h1]
  by_cases a7:b=(⟨#[111,114]⟩:ByteArray)
  · subst a7;simp [h1]
  by_cases a8:b=(⟨#[110,111,116]⟩:ByteArray)
  · subst a8;simp [h1]
  simp [h1,a1,a2,a3,a4,a5,a6,a7,a8]
theorem words_one (t:Tok) (r:List Tok) (h1:t.1=1):oneS 0 opW (t::r)=none:=by
  simp [oneS,tk,h1]
theorem words_loop (ws : List ByteArray) (h8 : ws.length = 8) (L : List Tok) (hL : TL L) (k : Nat) (ok : Bool) (hk : k ≤ L.length) :
  loopM (S:=Int×(List tTokT)×Int×Bool×Unit) (R:=((List tTokT)×Int×Bool×Unit)⊕(Int×Int×Int×Int×ByteArray×(List tTokT)×Int×Bool×Unit)) (fun (x4,o0_0_0,o0_0_1,o0_0_2,_)=>
  (bif (decide (x4<(8:Int))) then
  bif (decide (0≤x4)&&decide (x4<(ws.length:Int))) then
  let e7:ByteArray:=(List.getD ws (Int.toNat x4) (⟨#[]⟩:ByteArray))
  Option.bind (R07_Parser_take.F (e7,o0_0_0,o0_0_1,o0_0_2,())) fun y8=>
  (bif y8.1 then
  let e9:Int:=(IntKind.i64.wrap ((2:Int)+x4))
  some (.inr (.inr (e9,(0:Int),(0:Int),(0:Int),(⟨#[]⟩:ByteArray),y8.2.1,y8.2.2.1,y8.2.2.2.1,())))
  else
  let e10:Int:=(IntKind.i64.wrap (x4+(1:Int)))
  some (.inl (e10,y8.2.1,y8.2.2.1,y8.2.2.2.1,())))
  else none
  else
  some (.inr (.inl (o0_0_0,o0_0_1,o0_0_2,()))))) ((0:Int),L,(k:Int),ok,())=some (match oneS 0 ws (L.drop k) with
    |some y=> .inr (2+y.1,(0:Int),(0:Int),(0:Int),(⟨#[]⟩:ByteArray),L,((k+1:Nat):Int),ok,())
    |none=> .inl (L,(k:Int),ok,())):=by
  rw [loop_f (S:=Int×(List tTokT)×Int×Bool×Unit) (m:=fun x=>ws.length-x.1.toNat) (I:=fun x=>(∃i:Nat,x.1=(i:Int)∧i≤ws.length)∧x.2=(L,(k:Int),ok,()))
      (f:=fun x=>match oneS x.1 (ws.drop x.1.toNat) (L.drop k) with
        |some y=> .inr (2+y.1,(0:Int),(0:Int),(0:Int),(⟨#[]⟩:ByteArray),L,((k+1:Nat):Int),ok,())
        |none=> .inl (L,(k:Int),ok,())) ?_ _ ⟨⟨0,rfl,by omega⟩,rfl⟩]
  · rfl
  · rintro ⟨x,a,b,c,⟨⟩⟩ ⟨⟨i,hi,hle⟩,ha⟩
    simp only [Prod.mk.injEq,and_true] at hi ha
    obtain ⟨rfl,rfl,rfl⟩:=ha
    subst hi
    simp only [Int.toNat_natCast]
    by_cases hlt:i<ws.length
    · have d1:decide ((i:Int)<(8:Int))=true:=by simp;omega
      have d2:decide ((i:Int)<(ws.length:Int))=true:=by simp;omega
      have d0:decide (0≤(i:Int))=true:=by simp
      have w2:IntKind.i64.wrap ((2:Int)+(i:Int))=2+(i:Int):=by rw [i64_wrap]<;>omega
      simp only [d1,d2,d0,Bool.and_self,cond_true,getD_at hlt,rTake_s _ a hL k c hk,Option.bind_some,w2]
      rw [List.drop_eq_getElem_cons hlt]
      simp only [oneS]
      cases h:tkb ws[i] a k with
      |true=>
        right
        rw [(tkb_some h).2]
        rfl
      |false=>
        left
        rw [tkb_none h]
        simp only [cond_false,wrap_s hlt (show ws.length<9223372036854775808 by omega)]
        refine ⟨_,rfl,⟨⟨i+1,rfl,by omega⟩,rfl⟩,by simp only [Int.toNat_natCast];omega,?_⟩
        simp only [Int.toNat_natCast]
        rfl
    · right
      have d1:decide ((i:Int)<(8:Int))=false:=by simp;omega
      simp only [d1,cond_false]
      rw [List.drop_eq_nil_of_le (by omega)]
      rfl
theorem names_loop (kd : Int) (b : ByteArray) (hb : ∀ x ∈ b.data.toList,x ≠ 45) {T : Type} (X : T) :
  loopM (S:=Int×Unit) (R:=Unit⊕(Int×Int×Int×Int×ByteArray×T)) (fun (x6,_)=>
  (bif (decide (x6<(100:Int))) then
  (bif (kd==(0:Int)) then
  Option.bind (R01_Signed.F (x6,())) fun y13=>
  bif (!decide ((((⟨#[99]⟩:ByteArray).size+y13.1.size:Nat):Int)>IntKind.i64.max)) then
  let e14:ByteArray:=((⟨#[99]⟩:ByteArray)++y13.1)
  (bif (b.toList==e14.toList) then
  some (.inr (.inr ((0:Int),x6,(0:Int),(0:Int),(⟨#[]⟩:ByteArray),X)))
  else
  let e15:Int:=(IntKind.i64.wrap (x6+(1:Int)))
  some (.inl (e15,())))
  else none
  else
  let e16:Int:=(IntKind.i64.wrap (x6+(1:Int)))
  some (.inl (e16,())))
  else
  some (.inr (.inl (()))))) ((0:Int),())=some (match (if kd=0 then colN b else none) with
    |some m=> .inr (0,m,0,0,e0,X)
    |none=> .inl ()):=by
  rw [loop_f (S:=Int×Unit) (m:=fun x=>100-x.1.toNat) (I:=fun x=>∃i:Nat,x.1=(i:Int)∧i≤100)
      (f:=fun x=>match (if kd=0 then colN b else none) with
        |some m=>if x.1≤m then .inr (0,m,0,0,e0,X) else .inl ()
        |none=> .inl ()) ?_ _ ⟨0,rfl,by omega⟩]
  · by_cases hkd:kd=0
    · rw [if_pos hkd]
      cases h:colN b with
      |none=>rfl
      |some m=>
        obtain ⟨n,h1,h2⟩:=colN_range h hb
        simp only
        rw [if_pos (by omega)]
    · rw [if_neg hkd]
  · rintro ⟨x,⟨⟩⟩ ⟨i,hi,hle⟩
    simp only at hi
    subst hi
    by_cases hlt:i<100
    · have d1:decide ((i:Int)<(100:Int))=true:=by simp;omega
      have w1:IntKind.i64.wrap ((i:Int)+(1:Int))=((i+1:Nat):Int):=by rw [i64_wrap]<;>omega
      simp only [d1,cond_true,w1]
      by_cases hkd:kd=0
      · have hI:I64 (i:Int):=⟨by omega,by omega⟩
        have hk:(kd==(0:Int))=true:=by simp [hkd]
        have hlen:(Lib.itoa (i:Int)).length≤21:=itoa_len hI
        have hz:(⟨#[99]⟩:ByteArray).size=1:=rfl
        have hmx:(!decide ((((⟨#[99]⟩:ByteArray).size+(bs (Lib.itoa (i:Int))).size:Nat):Int)>IntKind.i64.max))=true:=by
          rw [imax,hz,bs_size,Bool.not_eq_true',decide_eq_false_iff_not];omega
        simp only [hk,cond_true,signed_s _ hI,Option.bind_some,hmx,beq_bytes,if_pos hkd]
        by_cases he:b=(⟨#[99]⟩:ByteArray)++bs (Lib.itoa (i:Int))
        · right
          rw [(colN_iff b i hlt).1 he,decide_eq_true he]
          simp only [cond_true]
          rw [if_pos (Int.le_refl _)]
        · left
          rw [decide_eq_false he]
          simp only [cond_false]
          refine ⟨_,rfl,⟨i+1,rfl,by omega⟩,by simp only [Int.toNat_natCast];omega,?_⟩
          cases h:colN b with
          |none=>rfl
          |some m=>
            simp only
            have hne:m≠(i:Int):=fun e=>he ((colN_iff b i hlt).2 (by rw [h,e]))
            by_cases hm:(i:Int)≤m
            · rw [if_pos hm,if_pos (by omega)]
            · rw [if_neg hm,if_neg (by omega)]
      · left
        have hk:(kd==(0:Int))=false:=by simp [hkd]
        simp only [hk,cond_false,if_neg hkd]
        exact ⟨_,rfl,⟨i+1,rfl,by omega⟩,by simp only [Int.toNat_natCast];omega,trivial⟩
    · right
      have d1:decide ((i:Int)<(100:Int))=false:=by simp;omega
      simp only [d1,cond_false]
      by_cases hkd:kd=0
      · rw [if_pos hkd]
        cases h:colN b with
        |none=>rfl
        |some m=>
          obtain ⟨n,h1,h2⟩:=colN_range h hb
          simp only
          rw [if_neg (by omega)]
      · rw [if_neg hkd]
theorem names_no (kd:Int) (b:ByteArray) (hkd:¬kd=0) {T:Type} (X:T):
  loopM (S:=Int×Unit) (R:=Unit⊕(Int×Int×Int×Int×ByteArray×T)) (fun (x6,_)=>
  (bif (decide (x6<(100:Int))) then
  (bif (kd==(0:Int)) then
  Option.bind (R01_Signed.F (x6,())) fun y13=>
  bif (!decide ((((⟨#[99]⟩:ByteArray).size+y13.1.size:Nat):Int)>IntKind.i64.max)) then
  let e14:ByteArray:=((⟨#[99]⟩:ByteArray)++y13.1)
  (bif (b.toList==e14.toList) then
  some (.inr (.inr ((0:Int),x6,(0:Int),(0:Int),(⟨#[]⟩:ByteArray),X)))
  else
  let e15:Int:=(IntKind.i64.wrap (x6+(1:Int)))
  some (.inl (e15,())))
  else none
  else
  let e16:Int:=(IntKind.i64.wrap (x6+(1:Int)))
  some (.inl (e16,())))
  else
  some (.inr (.inl (()))))) ((0:Int),())=some (.inl ()):=by
  rw [loop_f (S:=Int×Unit) (m:=fun x=>100-x.1.toNat) (I:=fun x=>∃i:Nat,x.1=(i:Int)∧i≤100)
      (f:=fun x=> .inl ()) ?_ _ ⟨0,rfl,by omega⟩]
  · rintro ⟨x,⟨⟩⟩ ⟨i,hi,hle⟩
    simp only at hi
    subst hi
    by_cases hlt:i<100
    · have d1:decide ((i:Int)<(100:Int))=true:=by simp;omega
      have w1:IntKind.i64.wrap ((i:Int)+(1:Int))=((i+1:Nat):Int):=by rw [i64_wrap]<;>omega
      left
      have hk:(kd==(0:Int))=false:=by simp [hkd]
      simp only [d1,cond_true,w1,hk,cond_false]
      exact ⟨_,rfl,⟨i+1,rfl,by omega⟩,by simp only [Int.toNat_natCast];omega,trivial⟩
    · right
      have d1:decide ((i:Int)<(100:Int))=false:=by simp;omega
      simp only [d1,cond_false]
end Go.Proofs.Ytniojllnooblcaa
end
end
section
section
namespace Go.Proofs.Ytniojllnooblcaa
open Go Lv Go.Proofs Go.RowKit Go.Shelf Dl
theorem inner_45 {c:UInt8} (h:inner c=true):c≠45:=fun e=>by subst e;revert h;decide
/--a word's bytes have no sign of minus;a sign's text is one byte,no letter -/
theorem tok_txt {t:Tok} (h:TokOk t):(t.1=0∧∀x∈t.2.1.data.toList,x≠45)∨t.1=1∨(t.1=2∧colP t.2.1.data.toList=none∧constOf t.2.1=none):=by
  cases h with
  |@word w h=>
    left
    refine ⟨rfl,fun x hx=>?_⟩
    rw [show (wordT w).2.1=bs w from rfl,bs_list] at hx
    cases w with
    |nil=>cases hx
    |cons c w=>
      simp only [isWordL,Bool.and_eq_true,List.all_eq_true] at h
      exact inner_45 (h.1.2 x hx)
  |@sign c h=>
    right;right
    refine ⟨rfl,?_,?_⟩
    · rw [show (signT c).2.1=bs [c] from rfl,bs_list]
      revert h
      have:∀n:Nat,n<256→UInt8.ofNat n∈signs→colP [UInt8.ofNat n]=none:=by decide+kernel
      intro h
      have hc:=this c.toNat (UInt8.toNat_lt c)
      rw [UInt8.ofNat_toNat] at hc
      exact hc h
    · have hz:∀k:ByteArray,k.size≠1→(signT c).2.1≠k:=fun k hk e=>hk (by rw [←e];rfl)
      unfold constOf
      rw [if_neg (hz _ (by decide)),if_neg (hz _ (by decide)),if_neg (hz _ (by decide))]
  |num _ _=>exact .inr (.inl rfl)
  |text _=>exact .inr (.inl rfl)
abbrev flatN (v:Dl.Node) (L:List Tok) (k:Nat) (ok:Bool):Int×Int×Int×Int×ByteArray×(List tTokT)×Int×Bool×Unit:=(v.1,v.2.1,v.2.2.1,v.2.2.2.1,v.2.2.2.2,L,(k:Int),ok,())
theorem rStep_p (L : List Tok) (hL : TL L) (k : Nat) (ok : Bool) (hk : k ≤ L.length) :
    ∃(v:Dl.Node) (k':Nat) (ok':Bool),R07_Parser_step.F (L,(k:Int),ok,())=some (flatN v L k' ok')∧Rf stepS L k ok v k' ok'∧(ok'=true→k<k'):=by
  rw [R07_Parser_step.eq]
  unfold R07_Parser_step.B
  simp only []
  cases h:L.drop k with
  |nil=>
    have hn:∀s,tkb s L k=false:=fun s=>by unfold tkb;rw [h];rfl
    simp only [rTake_s _ L hL k ok hk,hn,Option.bind_some,cond_false]
    rw [words_loop _ rfl L hL k ok hk,h]
    have ho:∀ws:List ByteArray,∀i,oneS i ws []=none:=by
      intro ws
      induction ws with
      |nil=>intro i;rfl
      |cons w ws ih=>intro i;exact ih _
    simp only [ho,Option.bind_some,rNext_s L hL k ok hk,h]
    rw [show ((-1:Int)==(1:Int))=false from rfl]
    simp only [cond_false]
    rw [names_loop (-1) e0 (by intro x hx;cases hx)]
    simp only [Option.bind_some]
    refine ⟨(0,(0,v0)),k,false,rfl,⟨Nat.le_refl _,hk,fun _=>rfl,fun _=>?_⟩,fun h=>by cases h⟩
    rw [h];rfl
  |cons t r=>
    obtain ⟨h1,h2,h3⟩:=drop_cons h
    have htk:∀s,tkb s L k=(decide (t.1≠1∧t.2.1=s)):=fun s=>by
      unfold tkb
      rw [h]
      simp only [tk]
      by_cases hh:t.1≠1∧t.2.1=s
      · rw [if_pos hh,decide_eq_true hh];rfl
      · rw [if_neg hh,decide_eq_false hh];rfl
    have hkk:∀b,kI b k=bif b then k+1 else k:=fun _=>rfl
    have good:∀(v:Dl.Node),stepS (t::r)=some (v,r)→Rf stepS L k ok v (k+1) ok∧(ok=true→k<k+1):=fun v hv=>by
      refine ⟨⟨by omega,h1,fun h=>h,fun e=>?_⟩,fun _=>by omega⟩
      rw [h,hv,e,h2];rfl
    by_cases hk1:t.1=1
    · have hn:∀s,tkb s L k=false:=fun s=>by rw [htk];exact decide_eq_false fun hh=>hh.1 hk1
      simp only [rTake_s _ L hL k ok hk,hn,Option.bind_some,cond_false]
      rw [words_loop _ rfl L hL k ok hk,h,words_one t r hk1]
      simp only [Option.bind_some,rNext_s L hL k ok hk,h]
      rw [hk1]
      rw [show ((1:Int)==(1:Int))=true from rfl]
      simp only [cond_true]
      have hs:stepS (t::r)=some ((1,(0,t.2.2)),r):=by simp [stepS,tkL,tk,hk1]
      exact ⟨(1,(0,t.2.2)),k+1,ok,rfl,good _ hs⟩
    · by_cases c1 : t.2.1 = (⟨#[110,117,108,108]⟩ : ByteArray)
      · have hn:tkb (⟨#[110,117,108,108]⟩:ByteArray) L k=true:=by rw [htk];exact decide_eq_true ⟨hk1,c1⟩
        rw [rTake_s _ L hL k ok hk,hn]
        simp only [Option.bind_some,cond_true]
        rw [rTake_s _ L hL (k+1) ok h1]
        simp only [Option.bind_some]
        have hnull:tk (⟨#[110,117,108,108]⟩:ByteArray) (t::r)=some r:=by simp [tk,hk1,c1]
        cases hq:tkb (⟨#[63]⟩:ByteArray) L (k+1) with
        |true=>
          obtain ⟨w1,w2⟩:=tkb_some hq
          simp only [cond_true]
          have hs:stepS (t::r)=some ((10,(0,v0)),L.drop (k+1+1)):=by
            unfold stepS
            simp only [tkL,hnull,Option.bind_some]
            rw [h2,w2]
            rfl
          refine ⟨(10,(0,v0)),k+1+1,ok,rfl,⟨by omega,by omega,fun h=>h,fun e=>?_⟩,fun _=>by omega⟩
          rw [h,hs,e];rfl
        |false=>
          have w2:=tkb_none hq
          simp only [cond_false]
          have hs:stepS (t::r)=some ((1,(0,v0)),r):=by
            unfold stepS
            simp only [tkL,hnull,Option.bind_some]
            rw [←h2] at w2
            rw [w2]
            simp only [Option.bind_none,hk1,if_false,c1]
            rfl
          exact ⟨(1,(0,v0)),k+1,ok,rfl,good _ hs⟩
      · have hn1:tkb (⟨#[110,117,108,108]⟩:ByteArray) L k=false:=by rw [htk];exact decide_eq_false fun hh=>c1 hh.2
        have hnull:tk (⟨#[110,117,108,108]⟩:ByteArray) (t::r)=none:=by simp [tk,c1]
        have hstep:stepS (t::r)=match opOf t.2.1 with
            |some op=>some ((op,(0,v0)),r)
            |none=>match constOf t.2.1 with
              |some v=>some ((1,(0,v)),r)
              |none=>(colP t.2.1.data.toList).map fun n=>((0,(n,v0)),r):=by
          unfold stepS
          simp only [tkL,hnull,Option.bind_none,hk1,if_false]
          rfl
        rw [rTake_s _ L hL k ok hk,hn1]
        simp only [Option.bind_some,cond_false]
        rw [rTake_s _ L hL k ok hk]
        simp only [Option.bind_some]
        by_cases c2:t.2.1=(⟨#[116,114,117,101]⟩:ByteArray)
        · have hn:tkb (⟨#[116,114,117,101]⟩:ByteArray) L k=true:=by rw [htk];exact decide_eq_true ⟨hk1,c2⟩
          rw [hn]
          simp only [cond_true,truth_s,Option.bind_some]
          have hs:stepS (t::r)=some ((1,(0,(1,(1,e0)))),r):=by rw [hstep,c2];rfl
          exact ⟨(1,(0,(1,(1,e0)))),k+1,ok,rfl,good _ hs⟩
        · have hn : tkb (⟨#[116,114,117,101]⟩ : ByteArray) L k = false := by rw [htk]; exact decide_eq_false fun hh => c2 hh.2
          rw [hn]
          simp only [cond_false]
          rw [rTake_s _ L hL k ok hk]
          simp only [Option.bind_some]
          by_cases c3:t.2.1=(⟨#[102,97,108,115,101]⟩:ByteArray)
          · have hn:tkb (⟨#[102,97,108,115,101]⟩:ByteArray) L k=true:=by rw [htk];exact decide_eq_true ⟨hk1,c3⟩
            rw [hn]
            simp only [cond_true,truth_s,Option.bind_some]
            have hs:stepS (t::r)=some ((1,(0,(1,(0,e0)))),r):=by rw [hstep,c3];rfl
            exact ⟨(1,(0,(1,(0,e0)))),k+1,ok,rfl,good _ hs⟩
          · have hn:tkb (⟨#[102,97,108,115,101]⟩:ByteArray) L k=false:=by rw [htk];exact decide_eq_false fun hh=>c3 hh.2
            rw [hn]
            simp only [cond_false]
            rw [words_loop _ rfl L hL k ok hk,h,words_op t r hk1]
            have hc:constOf t.2.1=none:=by unfold constOf;rw [if_neg c2,if_neg c3,if_neg c1]
            rw [hc] at hstep
            cases ho:opOf t.2.1 with
            |some op=>
              rw [ho] at hstep
              simp only [Option.map_some,Option.bind_some]
              have e:(2:Int)+(op-2)=op:=by omega
              rw [e]
              exact ⟨(op,(0,v0)),k+1,ok,rfl,good _ hstep⟩
            |none=>
              rw [ho] at hstep
              simp only [Option.map_none,Option.bind_some,rNext_s L hL k ok hk,h]
              have b1:(t.1==(1:Int))=false:=by simp [hk1]
              rw [b1]
              simp only [cond_false]
              rcases tok_txt (hL.2 t h3) with ⟨k0,hb⟩|k1|⟨k2,hcp,_⟩
              · rw [names_loop t.1 t.2.1 hb,if_pos k0]
                unfold colN
                simp only at hstep
                cases hcp:colP t.2.1.data.toList with
                |some n=>
                  rw [hcp] at hstep
                  simp only [Option.bind_some]
                  exact ⟨(0,(n,v0)),k+1,ok,rfl,good _ hstep⟩
                |none=>
                  rw [hcp] at hstep
                  simp only [Option.bind_some]
                  refine ⟨(0,(0,v0)),k+1,false,rfl,⟨by omega,h1,fun _=>rfl,fun e=>?_⟩,fun h=>by cases h⟩
                  rw [h,hstep];rfl
              · exact absurd k1 hk1
              · have k0:¬t.1=0:=by omega
                have hz:(t.1==(0:Int))=false:=by simp [k0]
                have hfin:∀b':ByteArray,(∀x∈b'.data.toList,x≠45)→True:=fun _ _=>trivial
                rw [names_no t.1 t.2.1 k0]
                simp only [Option.bind_some]
                simp only at hstep
                rw [hcp] at hstep
                refine ⟨(0,(0,v0)),k+1,false,rfl,⟨by omega,h1,fun _=>rfl,fun e=>?_⟩,fun h=>by cases h⟩
                rw [h,hstep];rfl
end Go.Proofs.Ytniojllnooblcaa
end
section
namespace Go.Proofs.Ytniojllnooblcaa
open Go Lv Go.Proofs Go.RowKit Go.Shelf Dl
theorem loop_ex {S R:Type} {body:S→Option (S⊕R)} (P:Option R→Prop) (m:S→Nat) (I:S→Prop) (Q:S→R→Prop) (s:S) (hI:I s) (hP:∀r,Q s r→P (some r))
    (h:∀s,I s→(∃s',body s=some (.inl s')∧I s'∧m s'<m s∧∀r,Q s' r→Q s r)∨∃r,body s=some (.inr r)∧Q s r):P (loopM body s):=by
  obtain ⟨r,h1,h2⟩:=loop_m m I Q h s hI
  rw [h1]
  exact hP r h2
theorem rExpr_p (L : List Tok) (hL : TL L) (k : Nat) (ok : Bool) (hk : k ≤ L.length) :
    ∃(v:List Dl.Node) (k':Nat) (ok':Bool),R07_Parser_expr.F (L,(k:Int),ok,())=some (L,(k':Int),ok',v,())∧Rf exprS L k ok v k' ok':=by
  rw [R07_Parser_expr.eq]
  unfold R07_Parser_expr.B
  simp only [rNeed_s (⟨#[91]⟩:ByteArray) L hL k ok hk,Option.bind_some]
  have q1:=kI_le (s:=(⟨#[91]⟩:ByteArray)) hk
  refine loop_ex (S:=(List tNodeT)×(List tTokT)×Int×Bool×Unit) (R:=(List tTokT)×Int×Bool×(List tNodeT)×Unit) (fun o=>∃(v:List Dl.Node) (k':Nat) (ok':Bool),o=some (L,(k':Int),ok',v,())∧Rf exprS L k ok v k' ok')
    (m:=fun x=>(L.length-x.2.2.1.toNat)*2+(bif x.2.2.2.1 then 1 else 0))
    (I:=fun x=>x.2.1=L∧∃j:Nat,x.2.2.1=(j:Int)∧j≤L.length∧(x.2.2.2.1=true→x.1.length≤100)∧x.1.length≤101)
    (Q:=fun x r=>∃(v:List Dl.Node) (k':Nat) (ok':Bool),r=(L,(k':Int),ok',v,())∧x.2.2.1.toNat≤k'∧k'≤L.length∧(x.2.2.2.1=false→ok'=false)∧
      (x.2.2.2.1=true→(stepsS (100-x.1.length) (L.drop x.2.2.1.toNat)).map (fun y=>(x.1++y.1,y.2))=bif ok' then some (v,L.drop k') else none))
    _ ⟨rfl,_,rfl,q1.2,fun _=>Nat.zero_le _,Nat.zero_le _⟩ ?_ ?_
  · rintro r ⟨v,k',ok',e1,e2,e3,e4,e5⟩
    rw [e1]
    simp only [Int.toNat_natCast] at e2 e5
    refine ⟨v,k',ok',rfl,⟨Nat.le_trans q1.1 e2,e3,fun h=>e4 (by rw [h];rfl),fun h=>?_⟩⟩
    unfold exprS
    cases hb:tkb (⟨#[91]⟩:ByteArray) L k with
    |false=>
      rw [tkb_none hb]
      have:=e4 (by rw [hb,Bool.and_false])
      rw [this]
      rfl
    |true=>
      rw [(tkb_some hb).2]
      rw [hb] at e5
      have:=e5 (by rw [h];rfl)
      simp only [Option.bind_some]
      rw [←this]
      show stepsS 100 (L.drop (k+1))=(stepsS 100 (L.drop (k+1))).map fun y=>([]++y.1,y.2)
      cases stepsS 100 (L.drop (k+1))<;>rfl
  · rintro ⟨acc,a,b,c,⟨⟩⟩ ⟨ha,j,hj,hjl,hacc,hacc2⟩
    simp only at ha hj hacc hacc2
    subst ha
    subst hj
    simp only [Int.toNat_natCast]
    cases c with
    |false=>
      right
      exact ⟨_,rfl,acc,j,false,rfl,Nat.le_refl _,hjl,fun _=>rfl,fun h=>by cases h⟩
    |true=>
      have hac:=hacc rfl
      simp only [cond_true,rTake_s (⟨#[93]⟩:ByteArray) a hL j true hjl,Option.bind_some]
      have q2:=kI_le (s:=(⟨#[93]⟩:ByteArray)) hjl
      cases hb:tkb (⟨#[93]⟩:ByteArray) a j with
      |true=>
        right
        obtain ⟨s1,s2⟩:=tkb_some hb
        refine ⟨_,rfl,acc,j+1,true,rfl,by omega,s1,nofun,fun _=>?_⟩
        rw [stepsS_eq,s2]
        simp only [Option.map_some,List.append_nil]
        rfl
      | false =>
        left
        have s2:=tkb_none hb
        simp only [Bool.not_false,cond_true]
        have hkf:kI false j=j:=rfl
        rw [hkf]
        obtain ⟨v,k1,o1,g1,g2,g3⟩:=rStep_p a hL j true hjl
        rw [g1]
        simp only [Option.bind_some]
        have hle:=g2.le
        have hhi:=g2.hi
        have d2:Nat.ble (acc.length+ [(v.1,(v.2.1,(v.2.2.1,(v.2.2.2.1,v.2.2.2.2))))].length) 2932031007402=true:=by
          rw [Nat.ble_eq];simp only [List.length_cons,List.length_nil];omega
        rw [d2]
        simp only [cond_true]
        have hv:(v.1,(v.2.1,(v.2.2.1,(v.2.2.2.1,v.2.2.2.2))))=v:=rfl
        rw [hv]
        have hlen:(acc++ [v]).length=acc.length+1:=by simp
        by_cases h100:acc.length=100
        · have d3:decide (((acc++ [v]).length:Int)>(100:Int))=true:=by rw [hlen,decide_eq_true_eq];omega
          rw [d3]
          simp only [cond_true]
          refine ⟨_,rfl,⟨rfl,k1,rfl,hhi,nofun,by rw [hlen];omega⟩,?_,?_⟩
          · simp only [Int.toNat_natCast,cond_false,cond_true];omega
          · rintro r ⟨w,k2,o2,f1,f2,f3,f4,f5⟩
            simp only [Int.toNat_natCast] at f2
            have ho:=f4 rfl
            refine ⟨w,k2,o2,f1,by omega,f3,nofun,fun _=>?_⟩
            rw [stepsS_eq,s2,h100,ho]
            rfl
        · have d3:decide (((acc++ [v]).length:Int)>(100:Int))=false:=by rw [hlen,decide_eq_false_iff_not];omega
          rw [d3]
          simp only [cond_false]
          refine ⟨_,rfl,⟨rfl,k1,rfl,hhi,fun h=>by rw [hlen];omega,by rw [hlen];omega⟩,?_,?_⟩
          · simp only [Int.toNat_natCast,cond_true]
            cases o1 with
            |false=>simp only [cond_false];omega
            |true=>have:=g3 rfl;simp only [cond_true];omega
          · rintro r ⟨w,k2,o2,f1,f2,f3,f4,f5⟩
            simp only [Int.toNat_natCast] at f2 f5
            refine ⟨w,k2,o2,f1,by omega,f3,nofun,fun _=>?_⟩
            have hn:100-acc.length=(100-(acc++ [v]).length)+1:=by rw [hlen];omega
            rw [stepsS_eq,s2,hn]
            simp only
            rw [g2.yes rfl]
            cases o1 with
            |false=>rw [f4 rfl];rfl
            |true=>
              simp only [cond_true,Option.bind_some]
              rw [←f5 rfl]
              cases stepsS (100-(acc++ [v]).length) (a.drop k1) with
              |none=>rfl
              |some y=>simp
end Go.Proofs.Ytniojllnooblcaa
end
section
namespace Go.Proofs.Ytniojllnooblcaa
open Go Lv Go.Proofs Go.RowKit Go.Shelf Dl
/--what follows,each behind such a token -/
def tailG {α : Type} (s : ByteArray) (p : List Tok → Option (α × List Tok)) : Nat → List Tok → Option (List α × List Tok)
  |n,l=>match tk s l with
    |none=>some ([],l)
    |some r=>match n with
      |0=>none
      |n+1=>(p r).bind fun x=>(tailG s p n x.2).map fun y=>(x.1::y.1,y.2)
theorem tailG_eq {α:Type} (s:ByteArray) (p:List Tok→Option (α×List Tok)) (n:Nat) (l:List Tok):tailG s p n l=match tk s l with
    |none=>some ([],l)
    |some r=>match n with
      |0=>none
      |n+1=>(p r).bind fun x=>(tailG s p n x.2).map fun y=>(x.1::y.1,y.2):=by rw [tailG.eq_def]
theorem tailS_G {α:Type} (p:List Tok→Option (α×List Tok)):∀(n:Nat) (l:List Tok),tailS p n l=tailG (⟨#[44]⟩:ByteArray) p n l:=by
  intro n
  induction n with
  |zero=>intro l;rw [tailG_eq];unfold tailS;cases tk (⟨#[44]⟩:ByteArray) l<;>rfl
  |succ n ih=>
    intro l
    rw [tailG_eq]
    unfold tailS
    cases tk (⟨#[44]⟩:ByteArray) l with
    |none=>rfl
    |some r=>
      simp only
      rw [sepS_eq]
      cases p r with
      |none=>rfl
      |some x=>simp only [Option.bind_some];rw [ih]
theorem sepS_G {α:Type} (p:List Tok→Option (α×List Tok)) (n:Nat) (l:List Tok):sepS p n l=(p l).bind fun x=>(tailG (⟨#[44]⟩:ByteArray) p n x.2).map fun y=>(x.1::y.1,y.2):=by
  rw [sepS_eq]
  simp only [tailS_G]
theorem checksS_G:∀(n:Nat) (l:List Tok),checksS n l=tailG (⟨#[99,104,101,99,107]⟩:ByteArray) exprS n l:=by
  intro n
  induction n with
  |zero=>intro l;rw [tailG_eq,checksS_eq];cases tk (⟨#[99,104,101,99,107]⟩:ByteArray) l<;>rfl
  |succ n ih=>
    intro l
    rw [tailG_eq,checksS_eq]
    cases tk (⟨#[99,104,101,99,107]⟩:ByteArray) l with
    |none=>rfl
    |some r=>
      simp only
      cases exprS r with
      |none=>rfl
      |some x=>simp only [Option.bind_some];rw [ih]
theorem tailG_lim {α : Type} (s : ByteArray) (p : List Tok → Option (α × List Tok)) : ∀ (m n : Nat),m ≤ n → ∀ l,tailG s p m l = (tailG s p n l).bind fun x => if x.1.length ≤ m then some x else none := by
  intro m
  induction m with
  |zero=>
    intro n _ l
    rw [tailG_eq,tailG_eq s p n]
    cases tk s l with
    |none=>rfl
    |some r=>
      cases n with
      |zero=>rfl
      |succ n=>
        simp only
        cases p r with
        |none=>rfl
        |some x=>
          simp only [Option.bind_some]
          cases tailG s p n x.2 with
          |none=>rfl
          |some y=>simp
  |succ m ih=>
    intro n hn l
    cases n with
    |zero=>omega
    |succ n=>
      rw [tailG_eq,tailG_eq s p (n+1)]
      cases tk s l with
      |none=>simp
      |some r=>
        simp only
        cases p r with
        |none=>rfl
        |some x=>
          simp only [Option.bind_some]
          rw [ih n (by omega)]
          cases tailG s p n x.2 with
          |none=>rfl
          |some y=>
            simp only [Option.bind_some,Option.map_some,List.length_cons]
            by_cases h:y.1.length≤m
            · rw [if_pos h,if_pos (by omega)];rfl
            · rw [if_neg h,if_neg (by omega)];rfl
theorem rtail {α S R : Type} {body : S → Option (S ⊕ R)} (s : ByteArray) (p : List Tok → Option (α × List Tok)) (L : List Tok) (mk : Nat → Bool → List α → S) (fin : Nat → Bool → List α → R)
    (h0:∀k acc,k≤L.length→body (mk k false acc)=some (.inr (fin k false acc)))
    (h1:∀k acc,k≤L.length→tkb s L k=false→body (mk k true acc)=some (.inr (fin k true acc)))
    (h2:∀k acc,acc.length≤k+1→k<L.length→tkb s L k=true→∃v k' o',Rf p L (k+1) true v k' o'∧body (mk k true acc)=some (.inl (mk k' o' (acc++ [v])))):
    ∀ (n k : Nat) (ok : Bool) (acc : List α),k ≤ L.length → L.length - k ≤ n → acc.length ≤ k + 1 →
      ∃ (vs : List α) (k' : Nat) (ok' : Bool),loopM body (mk k ok acc) = some (fin k' ok' (acc ++ vs)) ∧ k ≤ k' ∧ k' ≤ L.length ∧ (ok = false → ok' = false) ∧
        (ok=true→tailG s p n (L.drop k)=bif ok' then some (vs,L.drop k') else none):=by
  have base:∀(n k:Nat) (acc:List α),k≤L.length→tkb s L k=false→∃(vs:List α) (k':Nat) (ok':Bool),loopM body (mk k true acc)=some (fin k' ok' (acc++vs))∧k≤k'∧k'≤L.length∧(true=false→ok'=false)∧
        (true=true→tailG s p n (L.drop k)=bif ok' then some (vs,L.drop k') else none):=by
    intro n k acc hk hb
    refine ⟨[],k,true,?_,Nat.le_refl _,hk,nofun,fun _=>?_⟩
    · rw [loopM_q,h1 k acc hk hb,List.append_nil]
    · rw [tailG_eq,tkb_none hb];rfl
  have bad:∀(n k:Nat) (acc:List α),k≤L.length→∃(vs:List α) (k':Nat) (ok':Bool),loopM body (mk k false acc)=some (fin k' ok' (acc++vs))∧k≤k'∧k'≤L.length∧(false=false→ok'=false)∧
        (false=true→tailG s p n (L.drop k)=bif ok' then some (vs,L.drop k') else none):=by
    intro n k acc hk
    refine ⟨[],k,false,?_,Nat.le_refl _,hk,fun _=>rfl,nofun⟩
    rw [loopM_q,h0 k acc hk,List.append_nil]
  intro n
  induction n with
  |zero=>
    intro k ok acc hk hn ha
    cases ok with
    |false=>exact bad 0 k acc hk
    |true=>
      refine base 0 k acc hk ?_
      unfold tkb
      rw [List.drop_eq_nil_of_le (by omega)]
      rfl
  |succ n ih=>
    intro k ok acc hk hn ha
    cases ok with
    |false=>exact bad _ k acc hk
    |true=>
      cases hb:tkb s L k with
      |false=>exact base _ k acc hk hb
      |true=>
        obtain ⟨s1,s2⟩:=tkb_some hb
        obtain ⟨v,k1,o1,r1,e1⟩:=h2 k acc ha s1 hb
        have c1:=r1.le
        obtain ⟨vs,k',ok',g1,g2,g3,g4,g5⟩:=ih k1 o1 (acc++ [v]) r1.hi (by omega) (by simp;omega)
        refine ⟨v::vs,k',ok',?_,by omega,g3,nofun,fun _=>?_⟩
        · rw [loopM_q,e1]
          simp only
          rw [g1]
          simp
        · rw [tailG_eq,s2]
          simp only
          rw [r1.yes rfl]
          cases o1 with
          |false=>rw [g4 rfl];rfl
          |true=>
            simp only [cond_true,Option.bind_some]
            rw [g5 rfl]
            cases ok'<;>rfl
theorem rtail_ex {α S R Q:Type} {body:S→Option (S⊕R)} {K:R→Option Q} (P:Option Q→Prop) (s:ByteArray) (p:List Tok→Option (α×List Tok)) (L:List Tok) (mk:Nat→Bool→List α→S) (fin:Nat→Bool→List α→R)
    (n k:Nat) (ok:Bool) (acc:List α) (hk:k≤L.length) (hn:L.length-k≤n) (ha:acc.length≤k+1)
    (h0:∀k acc,k≤L.length→body (mk k false acc)=some (.inr (fin k false acc)))
    (h1:∀k acc,k≤L.length→tkb s L k=false→body (mk k true acc)=some (.inr (fin k true acc)))
    (h2:∀k acc,acc.length≤k+1→k<L.length→tkb s L k=true→∃v k' o',Rf p L (k+1) true v k' o'∧body (mk k true acc)=some (.inl (mk k' o' (acc++ [v]))))
    (hP:∀(vs:List α) (k':Nat) (ok':Bool),k≤k'→k'≤L.length→(ok=false→ok'=false)→(ok=true→tailG s p n (L.drop k)=bif ok' then some (vs,L.drop k') else none)→P (K (fin k' ok' (acc++vs)))):
    P (Option.bind (loopM body (mk k ok acc)) K):=by
  obtain ⟨vs,k',ok',g1,g2,g3,g4,g5⟩:=rtail s p L mk fin h0 h1 h2 n k ok acc hk hn ha
  rw [g1]
  exact hP vs k' ok' g2 g3 g4 g5
theorem tk_d (s:ByteArray) (L:List Tok) (k:Nat):tk s (L.drop k)=bif tkb s L k then some (L.drop (k+1)) else none:=by
  cases h:tkb s L k with
  |true=>exact (tkb_some h).2
  |false=>exact tkb_none h
theorem rTable_p (L : List Tok) (hL : TL L) (k : Nat) (ok : Bool) (hk : k ≤ L.length) :
    ∃(v:Tab) (k':Nat) (ok':Bool),R07_Parser_table.F (L,(k:Int),ok,())=some (v.1,L,(k':Int),ok',v.2.1,v.2.2,())∧Rf tableS L k ok v k' ok':=by
  rw [R07_Parser_table.eq]
  unfold R07_Parser_table.B
  simp only []
  have hlen:=hL.1
  obtain ⟨v1,k1,o1,e1,r1⟩:=rName_p L hL k ok hk
  rw [e1]
  simp only [Option.bind_some]
  rw [rNeed_s (⟨#[40]⟩:ByteArray) L hL k1 o1 r1.hi]
  simp only [Option.bind_some]
  have q2:=kI_le (s:=(⟨#[40]⟩:ByteArray)) r1.hi
  obtain ⟨v3,k3,o3,e3,r3⟩:=rColumn_p L hL (kI (tkb (⟨#[40]⟩:ByteArray) L k1) k1) (o1&&tkb (⟨#[40]⟩:ByteArray) L k1) q2.2
  rw [e3]
  simp only [Option.bind_some]
  have hv3:(v3.1,(v3.2.1,(v3.2.2.1,(v3.2.2.2.1,(v3.2.2.2.2.1,v3.2.2.2.2.2)))))=v3:=rfl
  rw [show Nat.ble [(v3.1,(v3.2.1,(v3.2.2.1,(v3.2.2.2.1,(v3.2.2.2.2.1,v3.2.2.2.2.2)))))].length 2513169434916=true from rfl,hv3]
  simp only [cond_true]
  have c1:=r1.le
  have c3:=r3.le
  refine rtail_ex (α:=Col) (S:=(List tTokT)×Int×Bool×ByteArray×(List tColumnT)×(List (List tNodeT))×Unit) (fun o=>∃(v:Tab) (k':Nat) (ok':Bool),o=some (v.1,L,(k':Int),ok',v.2.1,v.2.2,())∧Rf tableS L k ok v k' ok') (⟨#[44]⟩:ByteArray) columnS L
    (fun k ok acc=>(L,(k:Int),ok,v1,acc,[],())) (fun k ok acc=> .inl (L,(k:Int),ok,v1,acc,[],())) (L.length+100) k3 o3 [v3] r3.hi (by omega) (by simp) ?_ ?_ ?_ ?_
  · intro k acc hk
    rfl
  · intro k acc hk hb
    simp only [cond_true,rTake_s _ L hL k true hk,Option.bind_some,hb,cond_false]
  · intro k acc ha hk hb
    obtain ⟨v,k',o',e,r⟩:=rColumn_p L hL (k+1) true hk
    refine ⟨v,k',o',r,?_⟩
    have hkI:kI true k=k+1:=rfl
    simp only [cond_true,rTake_s _ L hL k true (Nat.le_of_lt hk),Option.bind_some,hb,hkI,e]
    have hv:(v.1,(v.2.1,(v.2.2.1,(v.2.2.2.1,(v.2.2.2.2.1,v.2.2.2.2.2)))))=v:=rfl
    rw [hv]
    have d2:Nat.ble (acc.length+ [v].length) 2513169434916=true:=by
      rw [Nat.ble_eq];simp only [List.length_cons,List.length_nil];omega
    rw [d2]
    rfl
  intro vs k4 o4 g1 g2 g3 g4
  simp only []
  rw [rNeed_s (⟨#[41]⟩:ByteArray) L hL k4 o4 g2]
  simp only [Option.bind_some]
  have q5:=kI_le (s:=(⟨#[41]⟩:ByteArray)) g2
  refine rtail_ex (α:=List Dl.Node) (S:=(List tTokT)×Int×Bool×ByteArray×(List tColumnT)×(List (List tNodeT))×Unit) (fun o=>∃(v:Tab) (k':Nat) (ok':Bool),o=some (v.1,L,(k':Int),ok',v.2.1,v.2.2,())∧Rf tableS L k ok v k' ok') (⟨#[99,104,101,99,107]⟩:ByteArray) exprS L
    (fun k ok acc=>(L,(k:Int),ok,v1,[v3]++vs,acc,())) (fun k ok acc=> .inl (L,(k:Int),ok,v1,[v3]++vs,acc,())) (L.length+100) (kI (tkb (⟨#[41]⟩:ByteArray) L k4) k4) (o4&&tkb (⟨#[41]⟩:ByteArray) L k4) [] q5.2 (by omega) (by simp) ?_ ?_ ?_ ?_
  · intro k acc hk
    rfl
  · intro k acc hk hb
    simp only [cond_true,rTake_s _ L hL k true hk,Option.bind_some,hb,cond_false]
  · intro k acc ha hk hb
    obtain ⟨v,k',o',e,r⟩:=rExpr_p L hL (k+1) true hk
    refine ⟨v,k',o',r,?_⟩
    have hkI:kI true k=k+1:=rfl
    simp only [cond_true,rTake_s _ L hL k true (Nat.le_of_lt hk),Option.bind_some,hb,hkI,e]
    have d2:Nat.ble (acc.length+ [v].length) 5864062014805=true:=by
      rw [Nat.ble_eq];simp only [List.length_cons,List.length_nil];omega
    rw [d2]
    rfl
  intro cs k6 o6 w1 w2 w3 w4
  simp only [List.nil_append,List.singleton_append]
  have hno:ok=false→o6=false:=fun h=>w3 (by rw [g3 (r3.no (by rw [r1.no h];rfl))];rfl)
  have hle:k≤k6:=by omega
  have hcol:decide (((v3::vs).length:Int)>(40:Int))= !decide (vs.length≤39):=by
    by_cases h:vs.length≤39
    · rw [decide_eq_true h];simp only [Bool.not_true,decide_eq_false_iff_not,List.length_cons];omega
    · rw [decide_eq_false h];simp only [Bool.not_false,decide_eq_true_eq,List.length_cons];omega
  have hchk:decide ((cs.length:Int)>(40:Int))= !decide (cs.length≤40):=by
    by_cases h:cs.length≤40
    · rw [decide_eq_true h];simp only [Bool.not_true,decide_eq_false_iff_not];omega
    · rw [decide_eq_false h];simp only [Bool.not_false,decide_eq_true_eq];omega
  refine ⟨(v1,(v3::vs,cs)),k6,(o6&&decide (vs.length≤39))&&decide (cs.length≤40),?_,hle,w2,fun h=>by rw [hno h];rfl,fun h=>?_⟩
  · rw [hcol,hchk]
    cases decide (vs.length≤39)<;>cases decide (cs.length≤40)<;>simp
  · unfold tableS
    rw [r1.yes h]
    cases o1 with
    |false=>
      have:o6=false:=w3 (by rw [g3 (r3.no rfl)];rfl)
      rw [this];rfl
    |true=>
      simp only [cond_true,Option.bind_some,tk_d]
      cases hb1:tkb (⟨#[40]⟩:ByteArray) L k1 with
      |false=>
        have:o6=false:=w3 (by rw [g3 (r3.no (by rw [hb1];rfl))];rfl)
        rw [this];rfl
      |true=>
        rw [hb1] at r3
        simp only [cond_true,Option.bind_some,sepS_G]
        have r3y:=r3.yes rfl
        have hkI:kI true k1=k1+1:=rfl
        rw [hkI] at r3y
        rw [r3y]
        cases o3 with
        |false=>
          have:o6=false:=w3 (by rw [g3 rfl];rfl)
          rw [this];rfl
        |true=>
          simp only [cond_true,Option.bind_some]
          rw [tailG_lim (⟨#[44]⟩:ByteArray) columnS 39 (L.length+100) (by omega),g4 rfl]
          cases o4 with
          |false=>
            have:o6=false:=w3 rfl
            rw [this];rfl
          |true=>
            simp only [cond_true,Option.bind_some]
            by_cases hl:vs.length≤39
            · rw [if_pos hl,decide_eq_true hl]
              simp only [Option.map_some,Option.bind_some,Bool.and_true,tk_d]
              cases hb4:tkb (⟨#[41]⟩:ByteArray) L k4 with
              |false=>
                have:o6=false:=w3 (by rw [hb4];rfl)
                rw [this];rfl
              |true=>
                have w4':=w4 (by rw [hb4];rfl)
                have hkI4:kI (tkb (⟨#[41]⟩:ByteArray) L k4) k4=k4+1:=by rw [hb4];rfl
                rw [hkI4] at w4'
                simp only [cond_true,Option.bind_some,checksS_G]
                rw [tailG_lim (⟨#[99,104,101,99,107]⟩:ByteArray) exprS 40 (L.length+100) (by omega),w4']
                cases o6 with
                |false=>rfl
                |true=>
                  simp only [cond_true,Option.bind_some,Bool.true_and]
                  by_cases hc:cs.length≤40
                  · rw [if_pos hc,decide_eq_true hc];rfl
                  · rw [if_neg hc,decide_eq_false hc];rfl
            · rw [if_neg hl,decide_eq_false hl,Bool.and_false,Bool.false_and];rfl
end Go.Proofs.Ytniojllnooblcaa
end
section
namespace Go.Proofs.Ytniojllnooblcaa
open Go Lv Go.Proofs Go.RowKit Go.Shelf Dl
theorem rAgg_p (L:List Tok) (hL:TL L) (k:Nat) (ok:Bool) (hk:k≤L.length):
    ∃(v:Dl.Agg) (k':Nat) (ok':Bool),R07_Parser_agg.F (L,(k:Int),ok,())=some (v.1,v.2,L,(k':Int),ok',())∧Rf aggS L k ok v k' ok':=by
  rw [R07_Parser_agg.eq]
  unfold R07_Parser_agg.B
  simp only []
  obtain ⟨v1,k1,o1,e1,r1,g1,g2⟩:=rOne_s fns (by decide) L hL k ok hk
  have c1:=r1.le
  rw [e1]
  simp only [Option.bind_some,i_ne]
  by_cases h0:v1=0
  · rw [decide_eq_true h0]
    simp only [Bool.not_true,cond_false]
    refine ⟨(v1,0),k1,o1,rfl,⟨c1,r1.hi,r1.no,fun h=>?_⟩⟩
    unfold aggS
    rw [r1.yes h]
    cases o1 with
    |false=>rfl
    |true=>simp only [cond_true,Option.bind_some,if_pos h0];rw [h0]
  · rw [decide_eq_false h0]
    simp only [Bool.not_false,cond_true]
    obtain ⟨v2,k2,o2,e2,r2⟩:=rCol_p L hL k1 o1 r1.hi
    have c2:=r2.le
    rw [e2]
    simp only [Option.bind_some]
    refine ⟨(v1,v2),k2,o2,rfl,⟨by omega,r2.hi,fun h=>r2.no (r1.no h),fun h=>?_⟩⟩
    unfold aggS
    rw [r1.yes h]
    cases o1 with
    |false=>rw [r2.no rfl];rfl
    |true=>
      simp only [cond_true,Option.bind_some,if_neg h0]
      rw [r2.yes rfl]
      cases o2<;>rfl
abbrev VS:Type:=(List tTokT)×Int×Bool×ByteArray×ByteArray×ByteArray×Int×Int×Bool×(List tNodeT)×(List Int)×(List tAggT)×Unit
theorem rJoin_p {R : Type} (n1 n3 : ByteArray) (L : List Tok) (hL : TL L) (k : Nat) (ok : Bool) (hk : k ≤ L.length) :
    ∃(j:ByteArray×Dl.Agg) (k':Nat) (ok':Bool),(Option.bind (R07_Parser_take.F ((⟨#[106,111,105,110]⟩:ByteArray),L,(k:Int),ok,())) fun y4=>
  (bif y4.1 then
  Option.bind (R07_Parser_name.F (y4.2.1,y4.2.2.1,y4.2.2.2.1,())) fun y5=>
  Option.bind (R07_Parser_need.F ((⟨#[111,110]⟩:ByteArray),y5.2.1,y5.2.2.1,y5.2.2.2.1,())) fun y6=>
  Option.bind (R07_Parser_col.F (y6.1,y6.2.1,y6.2.2.1,())) fun y7=>
  Option.bind (R07_Parser_need.F ((⟨#[61]⟩:ByteArray),y7.2.1,y7.2.2.1,y7.2.2.2.1,())) fun y8=>
  Option.bind (R07_Parser_col.F (y8.1,y8.2.1,y8.2.2.1,())) fun y9=>
  some (.inl (y9.2.1,y9.2.2.1,y9.2.2.2.1,n1,n3,y5.1,y7.1,y9.1,false,[],[],[],()))
  else
  some (.inl (y4.2.1,y4.2.2.1,y4.2.2.2.1,n1,n3,(⟨#[]⟩:ByteArray),(0:Int),(0:Int),false,[],[],[],()))):Option (VS⊕R))=
      some (.inl (L,(k':Int),ok',n1,n3,j.1,j.2.1,j.2.2,false,[],[],[],()))∧Rf joinS L k ok j k' ok':=by
  rw [rTake_s (⟨#[106,111,105,110]⟩:ByteArray) L hL k ok hk]
  simp only [Option.bind_some]
  cases hb:tkb (⟨#[106,111,105,110]⟩:ByteArray) L k with
  |false=>
    simp only [cond_false]
    refine ⟨(e0,(0,0)),k,ok,rfl,⟨Nat.le_refl _,hk,fun h=>h,fun h=>?_⟩⟩
    unfold joinS
    rw [tkb_none hb,h]
    rfl
  |true=>
    obtain ⟨s1,s2⟩:=tkb_some hb
    simp only [cond_true]
    obtain ⟨v1,k1,o1,e1,r1⟩:=rName_p L hL (k+1) ok s1
    have c1:=r1.le
    rw [e1]
    simp only [Option.bind_some]
    rw [rNeed_s (⟨#[111,110]⟩:ByteArray) L hL k1 o1 r1.hi]
    simp only [Option.bind_some]
    have q2:=kI_le (s:=(⟨#[111,110]⟩:ByteArray)) r1.hi
    obtain ⟨v2,k2,o2,e2,r2⟩:=rCol_p L hL _ (o1&&tkb (⟨#[111,110]⟩:ByteArray) L k1) q2.2
    have c2:=r2.le
    rw [e2]
    simp only [Option.bind_some]
    rw [rNeed_s (⟨#[61]⟩:ByteArray) L hL k2 o2 r2.hi]
    simp only [Option.bind_some]
    have q3:=kI_le (s:=(⟨#[61]⟩:ByteArray)) r2.hi
    obtain ⟨v3,k3,o3,e3,r3⟩:=rCol_p L hL _ (o2&&tkb (⟨#[61]⟩:ByteArray) L k2) q3.2
    have c3:=r3.le
    rw [e3]
    simp only [Option.bind_some]
    have n23:o2=false→o3=false:=fun h=>r3.no (by rw [h];rfl)
    have n12:o1=false→o3=false:=fun h=>n23 (r2.no (by rw [h];rfl))
    refine ⟨(v1,(v2,v3)),k3,o3,rfl,⟨by omega,r3.hi,fun h=>n12 (r1.no h),fun h=>?_⟩⟩
    unfold joinS
    rw [s2]
    simp only
    rw [r1.yes h]
    cases o1 with
    |false=>rw [n12 rfl];rfl
    |true=>
      simp only [cond_true,Option.bind_some,tk_d]
      cases hb2:tkb (⟨#[111,110]⟩:ByteArray) L k1 with
      |false=>rw [n23 (r2.no (by rw [hb2];rfl))];rfl
      |true=>
        simp only [cond_true,Option.bind_some]
        have y2:=r2.yes (by rw [hb2];rfl)
        have hk2:kI (tkb (⟨#[111,110]⟩:ByteArray) L k1) k1=k1+1:=by rw [hb2];rfl
        rw [hk2] at y2
        rw [y2]
        cases o2 with
        |false=>rw [n23 rfl];rfl
        |true=>
          simp only [cond_true,Option.bind_some,tk_d]
          cases hb3:tkb (⟨#[61]⟩:ByteArray) L k2 with
          |false=>rw [r3.no (by rw [hb3];rfl)];rfl
          |true=>
            simp only [cond_true,Option.bind_some]
            have y3:=r3.yes (by rw [hb3];rfl)
            have hk3:kI (tkb (⟨#[61]⟩:ByteArray) L k2) k2=k2+1:=by rw [hb3];rfl
            rw [hk3] at y3
            rw [y3]
            cases o3<;>rfl
theorem rWhere_p {R:Type} (a1 a2 a3:ByteArray) (a4 a5:Int) (a7:Bool) (a8:List Int) (a9:List tAggT) (L:List Tok) (hL:TL L) (k:Nat) (ok:Bool) (hk:k≤L.length):
    ∃(w:List Dl.Node) (k':Nat) (ok':Bool),(Option.bind (R07_Parser_take.F ((⟨#[119,104,101,114,101]⟩:ByteArray),L,(k:Int),ok,())) fun y11=>
  (bif y11.1 then
  Option.bind (R07_Parser_expr.F (y11.2.1,y11.2.2.1,y11.2.2.2.1,())) fun y12=>
  some (.inl (y12.1,y12.2.1,y12.2.2.1,a1,a2,a3,a4,a5,a7,y12.2.2.2.1,a8,a9,()))
  else
  some (.inl (y11.2.1,y11.2.2.1,y11.2.2.2.1,a1,a2,a3,a4,a5,a7,[],a8,a9,()))):Option (VS⊕R))=
      some (.inl (L,(k':Int),ok',a1,a2,a3,a4,a5,a7,w,a8,a9,()))∧Rf whereS L k ok w k' ok':=by
  rw [rTake_s (⟨#[119,104,101,114,101]⟩:ByteArray) L hL k ok hk]
  simp only [Option.bind_some]
  cases hb:tkb (⟨#[119,104,101,114,101]⟩:ByteArray) L k with
  |false=>
    simp only [cond_false]
    refine ⟨[],k,ok,rfl,⟨Nat.le_refl _,hk,fun h=>h,fun h=>?_⟩⟩
    unfold whereS
    rw [tkb_none hb,h]
    rfl
  |true=>
    obtain ⟨s1,s2⟩:=tkb_some hb
    simp only [cond_true]
    obtain ⟨v1,k1,o1,e1,r1⟩:=rExpr_p L hL (k+1) ok s1
    have c1:=r1.le
    rw [e1]
    simp only [Option.bind_some]
    refine ⟨v1,k1,o1,rfl,⟨by omega,r1.hi,r1.no,fun h=>?_⟩⟩
    unfold whereS
    rw [s2]
    exact r1.yes h
/--the picks,as many as there are -/
def pickU (n:Nat) (l:List Tok):Option (List Int×List Tok):=if l=[]∨(tk (⟨#[103,114,111,117,112]⟩:ByteArray) l).isSome then some ([],l) else sepS colS n l
def groupU (n:Nat) (l:List Tok):Option ((Bool×List Dl.Agg)×List Tok):=match tk (⟨#[103,114,111,117,112]⟩:ByteArray) l with
  |none=>some ((false,[]),l)
  |some r=>if r=[] then some ((true,[]),r) else (sepS aggS n r).map fun x=>((true,x.1),x.2)
theorem sepS_lim {α:Type} (p:List Tok→Option (α×List Tok)) (m n:Nat) (h:m≤n) (l:List Tok):sepS p m l=(sepS p n l).bind fun x=>if x.1.length≤m+1 then some x else none:=by
  rw [sepS_G,sepS_G]
  cases p l with
  |none=>rfl
  |some x=>
    simp only [Option.bind_some]
    rw [tailG_lim (⟨#[44]⟩:ByteArray) p m n h]
    cases tailG (⟨#[44]⟩:ByteArray) p n x.2 with
    |none=>rfl
    |some y=>
      simp only [Option.bind_some,Option.map_some,List.length_cons]
      by_cases hl:y.1.length≤m
      · rw [if_pos hl,if_pos (by omega)];rfl
      · rw [if_neg hl,if_neg (by omega)];rfl
theorem pickS_U (n:Nat) (hn:39≤n) (l:List Tok):pickS l=(pickU n l).bind fun x=>if x.1.length≤40 then some x else none:=by
  unfold pickS pickU
  by_cases h:l=[]∨(tk (⟨#[103,114,111,117,112]⟩:ByteArray) l).isSome
  · rw [if_pos h,if_pos h];rfl
  · rw [if_neg h,if_neg h,sepS_lim colS 39 n hn]
theorem groupS_U (n : Nat) (hn : 39 ≤ n) (l : List Tok) : groupS l = (groupU n l).bind fun x => if x.1.2.length ≤ 40 then some x else none := by
  unfold groupS groupU
  cases tk (⟨#[103,114,111,117,112]⟩:ByteArray) l with
  |none=>rfl
  |some r=>
    simp only
    by_cases h:r=[]
    · rw [if_pos h,if_pos h];rfl
    · rw [if_neg h,if_neg h,sepS_lim aggS 39 n hn]
      cases sepS aggS n r with
      |none=>rfl
      |some x=>
        simp only [Option.bind_some,Option.map_some]
        by_cases hl:x.1.length≤39+1
        · rw [if_pos hl,if_pos hl];rfl
        · rw [if_neg hl,if_neg hl];rfl
end Go.Proofs.Ytniojllnooblcaa
end
section
namespace Go.Proofs.Ytniojllnooblcaa
open Go Lv Go.Proofs Go.RowKit Go.Shelf Dl
theorem ltl {L:List Tok} {k:Nat}:decide ((k:Int)<(L.length:Int))= !decide (L.drop k=[]):=by
  have h:L.drop k=[]↔L.length≤k:=List.drop_eq_nil_iff
  by_cases hk:L.length≤k
  · rw [decide_eq_true (h.2 hk),Bool.not_true,decide_eq_false_iff_not];omega
  · rw [decide_eq_false (fun e=>hk (h.1 e)),Bool.not_false,decide_eq_true_eq];omega
theorem rPick_p {R : Type} (a1 a2 a3 : ByteArray) (a4 a5 : Int) (a7 : Bool) (a6 : List tNodeT) (L : List Tok) (hL : TL L) (k : Nat) (ok : Bool) (hk : k ≤ L.length) :
    ∃(w:List Int) (k':Nat) (ok':Bool),(
  Option.bind (
  (bif (decide ((k:Int)<(L.length:Int))) then
  Option.bind (R07_Parser_is.F ((⟨#[103,114,111,117,112]⟩:ByteArray),L,(k:Int),ok,())) fun y15=>
  some (.inl ((!y15.1),y15.2.1,y15.2.2.1,y15.2.2.2.1,()))
  else
  some (.inl (false,L,(k:Int),ok,()))):Option ((Bool×(List tTokT)×Int×Bool×Unit)⊕(VS⊕R))) fun r16=>match r16 with
  | .inl (x52_16,o0_0_0_16,o0_0_1_16,o0_0_2_16,_)=>
  ((bif x52_16 then
  Option.bind (R07_Parser_col.F (o0_0_0_16,o0_0_1_16,o0_0_2_16,())) fun y17=>
  bif (Nat.ble (([]:List Int).length+ [y17.1].length) 17592186044416) then
  loopM (S:=(List tTokT)×Int×Bool×ByteArray×ByteArray×ByteArray×Int×Int×Bool×(List tNodeT)×(List Int)×(List tAggT)×Unit) (fun (o0_0_0,o0_0_1,o0_0_2,o3_0_0,o3_0_1,o3_0_2,o3_0_3,o3_0_4,o3_0_7,o3_0_5,o3_0_6,o3_0_8,_)=>
  (bif o0_0_2 then
  Option.bind (R07_Parser_take.F ((⟨#[44]⟩:ByteArray),o0_0_0,o0_0_1,o0_0_2,())) fun y18=>
  (bif y18.1 then
  Option.bind (R07_Parser_col.F (y18.2.1,y18.2.2.1,y18.2.2.2.1,())) fun y19=>
  bif (Nat.ble (o3_0_6.length+ [y19.1].length) 17592186044416) then
  some (.inl (y19.2.1,y19.2.2.1,y19.2.2.2.1,o3_0_0,o3_0_1,o3_0_2,o3_0_3,o3_0_4,o3_0_7,o3_0_5,(o3_0_6++ [y19.1]),o3_0_8,()))
  else none
  else
  some (.inr (.inl (y18.2.1,y18.2.2.1,y18.2.2.2.1,o3_0_0,o3_0_1,o3_0_2,o3_0_3,o3_0_4,o3_0_7,o3_0_5,o3_0_6,o3_0_8,()))))
  else
  some (.inr (.inl (o0_0_0,o0_0_1,o0_0_2,o3_0_0,o3_0_1,o3_0_2,o3_0_3,o3_0_4,o3_0_7,o3_0_5,o3_0_6,o3_0_8,()))))) (y17.2.1,y17.2.2.1,y17.2.2.2.1,a1,a2,a3,a4,a5,a7,a6,(([]:List Int)++ [y17.1]),([]:List tAggT),())
  else none
  else
  some (.inl (o0_0_0_16,o0_0_1_16,o0_0_2_16,a1,a2,a3,a4,a5,a7,a6,[],[],()))))
  | .inr r=>some r:Option (VS⊕R))=some (.inl (L,(k':Int),ok',a1,a2,a3,a4,a5,a7,a6,w,[],()))∧Rf (pickU (L.length+100)) L k ok w k' ok':=by
  have hlen:=hL.1
  rw [ltl]
  have no:∀(hp:L.drop k=[]∨(tk (⟨#[103,114,111,117,112]⟩:ByteArray) (L.drop k)).isSome),Rf (pickU (L.length+100)) L k ok [] k ok:=fun hp=>by
    refine ⟨Nat.le_refl _,hk,fun h=>h,fun h=>?_⟩
    unfold pickU
    rw [if_pos hp,h];rfl
  by_cases h0:L.drop k=[]
  · rw [decide_eq_true h0]
    simp only [Bool.not_true,cond_false,Option.bind_some]
    exact ⟨[],k,ok,rfl,no (.inl h0)⟩
  · rw [decide_eq_false h0]
    simp only [Bool.not_false,cond_true,rIs_s,Option.bind_some]
    cases hb:tkb (⟨#[103,114,111,117,112]⟩:ByteArray) L k with
    |true=>
      simp only [Bool.not_true,cond_false]
      exact ⟨[],k,ok,rfl,no (.inr hb)⟩
    |false=>
      simp only [Bool.not_false,cond_true]
      obtain ⟨v1,k1,o1,e1,r1⟩:=rCol_p L hL k ok hk
      have c1:=r1.le
      rw [e1]
      simp only [Option.bind_some,List.length_nil,List.length_cons,List.nil_append]
      rw [show Nat.ble (0+(0+1)) 17592186044416=true from rfl]
      simp only [cond_true]
      obtain ⟨vs,k2,o2,g0,g1,g2,g3,g4⟩:=rtail (α:=Int) (S:=VS) (R:=VS⊕R) (⟨#[44]⟩:ByteArray) colS L
        (fun k ok acc=>(L,(k:Int),ok,a1,a2,a3,a4,a5,a7,a6,acc,[],())) (fun k ok acc=> .inl (L,(k:Int),ok,a1,a2,a3,a4,a5,a7,a6,acc,[],()))
        (body:=(fun (o0_0_0,o0_0_1,o0_0_2,o3_0_0,o3_0_1,o3_0_2,o3_0_3,o3_0_4,o3_0_7,o3_0_5,o3_0_6,o3_0_8,_)=>
  (bif o0_0_2 then
  Option.bind (R07_Parser_take.F ((⟨#[44]⟩:ByteArray),o0_0_0,o0_0_1,o0_0_2,())) fun y18=>
  (bif y18.1 then
  Option.bind (R07_Parser_col.F (y18.2.1,y18.2.2.1,y18.2.2.2.1,())) fun y19=>
  bif (Nat.ble (o3_0_6.length+ [y19.1].length) 17592186044416) then
  some (.inl (y19.2.1,y19.2.2.1,y19.2.2.2.1,o3_0_0,o3_0_1,o3_0_2,o3_0_3,o3_0_4,o3_0_7,o3_0_5,(o3_0_6++ [y19.1]),o3_0_8,()))
  else none
  else
  some (.inr (.inl (y18.2.1,y18.2.2.1,y18.2.2.2.1,o3_0_0,o3_0_1,o3_0_2,o3_0_3,o3_0_4,o3_0_7,o3_0_5,o3_0_6,o3_0_8,()))))
  else
  some (.inr (.inl (o0_0_0,o0_0_1,o0_0_2,o3_0_0,o3_0_1,o3_0_2,o3_0_3,o3_0_4,o3_0_7,o3_0_5,o3_0_6,o3_0_8,()))))))
        (fun k acc hk=>rfl)
        (fun k acc hk hb=>by
          simp only [cond_true,rTake_s _ L hL k true hk,Option.bind_some,hb,cond_false])
        (fun k acc ha hk hb=>by
          obtain ⟨v,k',o',e,r⟩:=rCol_p L hL (k+1) true hk
          refine ⟨v,k',o',r,?_⟩
          have hkI:kI true k=k+1:=rfl
          simp only [cond_true,rTake_s _ L hL k true (Nat.le_of_lt hk),Option.bind_some,hb,hkI,e]
          have d2:Nat.ble (acc.length+ [v].length) 17592186044416=true:=by
            rw [Nat.ble_eq];simp only [List.length_cons,List.length_nil];omega
          rw [d2]
          rfl) (L.length+100) k1 o1 [v1] r1.hi (by omega) (by simp)
      refine ⟨v1::vs,k2,o2,g0,⟨by omega,g2,fun h=>g3 (r1.no h),fun h=>?_⟩⟩
      unfold pickU
      rw [if_neg (by rintro (h|h);exact h0 h;exact absurd h (by rw [show (tk (⟨#[103,114,111,117,112]⟩:ByteArray) (L.drop k)).isSome=false from hb];decide)),sepS_G,r1.yes h]
      cases o1 with
      |false=>rw [g3 rfl];rfl
      |true=>
        simp only [cond_true,Option.bind_some]
        rw [g4 rfl]
        cases o2<;>rfl
theorem rAggs_p {R : Type} (a1 a2 a3 : ByteArray) (a4 a5 : Int) (g : Bool) (a6 : List tNodeT) (a8 : List Int) (L : List Tok) (hL : TL L) (k : Nat) (ok : Bool) (hk : k ≤ L.length) :
    ∃(w:List Dl.Agg) (k':Nat) (ok':Bool),(Option.bind (
  (bif g then
  some (.inl ((decide ((k:Int)<(L.length:Int))),()))
  else
  some (.inl (false,()))):Option ((Bool×Unit)⊕(VS⊕R))) fun r22=>match r22 with
  | .inl (x91_22,_)=>
  ((bif x91_22 then
  Option.bind (R07_Parser_agg.F (L,(k:Int),ok,())) fun y23=>
  bif (Nat.ble (([]:List tAggT).length+ [(y23.1,y23.2.1)].length) 8796093022208) then
  loopM (S:=(List tTokT)×Int×Bool×ByteArray×ByteArray×ByteArray×Int×Int×Bool×(List tNodeT)×(List Int)×(List tAggT)×Unit) (fun (o0_0_0,o0_0_1,o0_0_2,o3_0_0,o3_0_1,o3_0_2,o3_0_3,o3_0_4,o3_0_7,o3_0_5,o3_0_6,o3_0_8,_)=>
  (bif o0_0_2 then
  Option.bind (R07_Parser_take.F ((⟨#[44]⟩:ByteArray),o0_0_0,o0_0_1,o0_0_2,())) fun y24=>
  (bif y24.1 then
  Option.bind (R07_Parser_agg.F (y24.2.1,y24.2.2.1,y24.2.2.2.1,())) fun y25=>
  bif (Nat.ble (o3_0_8.length+ [(y25.1,y25.2.1)].length) 8796093022208) then
  some (.inl (y25.2.2.1,y25.2.2.2.1,y25.2.2.2.2.1,o3_0_0,o3_0_1,o3_0_2,o3_0_3,o3_0_4,o3_0_7,o3_0_5,o3_0_6,(o3_0_8++ [(y25.1,y25.2.1)]),()))
  else none
  else
  some (.inr (.inl (y24.2.1,y24.2.2.1,y24.2.2.2.1,o3_0_0,o3_0_1,o3_0_2,o3_0_3,o3_0_4,o3_0_7,o3_0_5,o3_0_6,o3_0_8,()))))
  else
  some (.inr (.inl (o0_0_0,o0_0_1,o0_0_2,o3_0_0,o3_0_1,o3_0_2,o3_0_3,o3_0_4,o3_0_7,o3_0_5,o3_0_6,o3_0_8,()))))) (y23.2.2.1,y23.2.2.2.1,y23.2.2.2.2.1,a1,a2,a3,a4,a5,g,a6,a8,(([]:List tAggT)++ [(y23.1,y23.2.1)]),())
  else none
  else
  some (.inl (L,(k:Int),ok,a1,a2,a3,a4,a5,g,a6,a8,[],()))))
  | .inr r=>some r:Option (VS⊕R))=some (.inl (L,(k':Int),ok',a1,a2,a3,a4,a5,g,a6,a8,w,()))∧
      Rf (fun l=>if g=false∨l=[] then some ([],l) else sepS aggS (L.length+100) l) L k ok w k' ok':=by
  have hlen:=hL.1
  rw [ltl]
  have no:∀(hp:g=false∨L.drop k=[]),Rf (fun l=>if g=false∨l=[] then some ([],l) else sepS aggS (L.length+100) l) L k ok [] k ok:=fun hp=>by
    refine ⟨Nat.le_refl _,hk,fun h=>h,fun h=>?_⟩
    rw [if_pos hp,h];rfl
  cases g with
  |false=>
    simp only [cond_false,Option.bind_some]
    exact ⟨[],k,ok,rfl,no (.inl rfl)⟩
  |true=>
    by_cases h0:L.drop k=[]
    · rw [decide_eq_true h0]
      simp only [Bool.not_true,cond_true,cond_false,Option.bind_some]
      exact ⟨[],k,ok,rfl,no (.inr h0)⟩
    · rw [decide_eq_false h0]
      simp only [Bool.not_false,cond_true,Option.bind_some]
      obtain ⟨v1,k1,o1,e1,r1⟩:=rAgg_p L hL k ok hk
      have c1:=r1.le
      rw [e1]
      simp only [Option.bind_some,List.length_nil,List.length_cons,List.nil_append]
      rw [show Nat.ble (0+(0+1)) 8796093022208=true from rfl]
      simp only [cond_true]
      obtain ⟨vs,k2,o2,g0,g1,g2,g3,g4⟩:=rtail (α:=Dl.Agg) (S:=VS) (R:=VS⊕R) (⟨#[44]⟩:ByteArray) aggS L
        (fun k ok acc=>(L,(k:Int),ok,a1,a2,a3,a4,a5,true,a6,a8,acc,())) (fun k ok acc=> .inl (L,(k:Int),ok,a1,a2,a3,a4,a5,true,a6,a8,acc,()))
        (body:=(fun (o0_0_0,o0_0_1,o0_0_2,o3_0_0,o3_0_1,o3_0_2,o3_0_3,o3_0_4,o3_0_7,o3_0_5,o3_0_6,o3_0_8,_)=>
  (bif o0_0_2 then
  Option.bind (R07_Parser_take.F ((⟨#[44]⟩:ByteArray),o0_0_0,o0_0_1,o0_0_2,())) fun y24=>
  (bif y24.1 then
  Option.bind (R07_Parser_agg.F (y24.2.1,y24.2.2.1,y24.2.2.2.1,())) fun y25=>
  bif (Nat.ble (o3_0_8.length+ [(y25.1,y25.2.1)].length) 8796093022208) then
  some (.inl (y25.2.2.1,y25.2.2.2.1,y25.2.2.2.2.1,o3_0_0,o3_0_1,o3_0_2,o3_0_3,o3_0_4,o3_0_7,o3_0_5,o3_0_6,(o3_0_8++ [(y25.1,y25.2.1)]),()))
  else none
  else
  some (.inr (.inl (y24.2.1,y24.2.2.1,y24.2.2.2.1,o3_0_0,o3_0_1,o3_0_2,o3_0_3,o3_0_4,o3_0_7,o3_0_5,o3_0_6,o3_0_8,()))))
  else
  some (.inr (.inl (o0_0_0,o0_0_1,o0_0_2,o3_0_0,o3_0_1,o3_0_2,o3_0_3,o3_0_4,o3_0_7,o3_0_5,o3_0_6,o3_0_8,()))))))
        (fun k acc hk=>rfl)
        (fun k acc hk hb=>by
          simp only [cond_true,rTake_s _ L hL k true hk,Option.bind_some,hb,cond_false])
        (fun k acc ha hk hb=>by
          obtain ⟨v,k',o',e,r⟩:=rAgg_p L hL (k+1) true hk
          refine ⟨v,k',o',r,?_⟩
          have hkI:kI true k=k+1:=rfl
          simp only [cond_true,rTake_s _ L hL k true (Nat.le_of_lt hk),Option.bind_some,hb,hkI,e]
          have d2:Nat.ble (acc.length+ [(v.1,v.2)].length) 8796093022208=true:=by
            rw [Nat.ble_eq];simp only [List.length_cons,List.length_nil];omega
          rw [d2]
          rfl) (L.length+100) k1 o1 [v1] r1.hi (by omega) (by simp)
      refine ⟨v1::vs,k2,o2,g0,⟨by omega,g2,fun h=>g3 (r1.no h),fun h=>?_⟩⟩
      rw [if_neg (by rintro (h|h);exact absurd h (by decide);exact h0 h),sepS_G,r1.yes h]
      cases o1 with
      |false=>rw [g3 rfl];rfl
      |true=>
        simp only [cond_true,Option.bind_some]
        rw [g4 rfl]
        cases o2<;>rfl
theorem bind_P {α β:Type} {x:Option α} {K:α→Option β} (P:Option β→Prop) (v:α) (h:x=some v) (hp:P (K v)):P (x.bind K):=by rw [h];exact hp
theorem rView_p (L : List Tok) (hL : TL L) (k : Nat) (ok : Bool) (hk : k ≤ L.length) :
    ∃(v:Dl.View) (k':Nat) (ok':Bool),R07_Parser_view.F (L,(k:Int),ok,())=some (v.1,v.2.1,v.2.2.1,v.2.2.2.1.1,v.2.2.2.1.2,v.2.2.2.2.2.2.1,L,(k':Int),ok',v.2.2.2.2.1,v.2.2.2.2.2.1,v.2.2.2.2.2.2.2,())∧Rf viewS L k ok v k' ok':=by
  rw [R07_Parser_view.eq]
  unfold R07_Parser_view.B
  simp only []
  have hlen:=hL.1
  obtain ⟨v1,k1,o1,e1,r1⟩:=rName_p L hL k ok hk
  rw [e1]
  simp only [Option.bind_some]
  rw [rNeed_s (⟨#[102,114,111,109]⟩:ByteArray) L hL k1 o1 r1.hi]
  simp only [Option.bind_some]
  have q2:=kI_le (s:=(⟨#[102,114,111,109]⟩:ByteArray)) r1.hi
  obtain ⟨v3,k3,o3,e3,r3⟩:=rName_p L hL _ (o1&&tkb (⟨#[102,114,111,109]⟩:ByteArray) L k1) q2.2
  rw [e3]
  simp only [Option.bind_some]
  obtain ⟨j,k4,o4,e4,r4⟩:=rJoin_p (R:=ByteArray×ByteArray×ByteArray×Int×Int×Bool×(List tTokT)×Int×Bool×(List tNodeT)×(List Int)×(List tAggT)×Unit) v1 v3 L hL k3 o3 r3.hi
  rw [e4]
  simp only [Option.bind_some]
  obtain ⟨w,k5,o5,e5,r5⟩:=rWhere_p (R:=ByteArray×ByteArray×ByteArray×Int×Int×Bool×(List tTokT)×Int×Bool×(List tNodeT)×(List Int)×(List tAggT)×Unit) v1 v3 j.1 j.2.1 j.2.2 false [] [] L hL k4 o4 r4.hi
  rw [e5]
  simp only [Option.bind_some]
  rw [rNeed_s (⟨#[112,105,99,107]⟩:ByteArray) L hL k5 o5 r5.hi]
  simp only [Option.bind_some]
  have q6:=kI_le (s:=(⟨#[112,105,99,107]⟩:ByteArray)) r5.hi
  obtain ⟨p,k7,o7,e7,r7⟩:=rPick_p (R:=ByteArray×ByteArray×ByteArray×Int×Int×Bool×(List tTokT)×Int×Bool×(List tNodeT)×(List Int)×(List tAggT)×Unit) v1 v3 j.1 j.2.1 j.2.2 false w L hL _ (o5&&tkb (⟨#[112,105,99,107]⟩:ByteArray) L k5) q6.2
  refine bind_P (fun o=>∃(v:Dl.View) (k':Nat) (ok':Bool),o=some (v.1,v.2.1,v.2.2.1,v.2.2.2.1.1,v.2.2.2.1.2,v.2.2.2.2.2.2.1,L,(k':Int),ok',v.2.2.2.2.1,v.2.2.2.2.2.1,v.2.2.2.2.2.2.2,())∧Rf viewS L k ok v k' ok') _ (Eq.trans ?_ e7) ?_
  · kernel_rfl
  simp only [Option.bind_some]
  rw [rTake_s (⟨#[103,114,111,117,112]⟩:ByteArray) L hL k7 o7 r7.hi]
  simp only [Option.bind_some]
  have q8:=kI_le (s:=(⟨#[103,114,111,117,112]⟩:ByteArray)) r7.hi
  obtain ⟨gs,k9,o9,e9,r9⟩:=rAggs_p (R:=ByteArray×ByteArray×ByteArray×Int×Int×Bool×(List tTokT)×Int×Bool×(List tNodeT)×(List Int)×(List tAggT)×Unit) v1 v3 j.1 j.2.1 j.2.2 (tkb (⟨#[103,114,111,117,112]⟩:ByteArray) L k7) w p L hL (kI (tkb (⟨#[103,114,111,117,112]⟩:ByteArray) L k7) k7) o7 q8.2
  refine bind_P (fun o=>∃(v:Dl.View) (k':Nat) (ok':Bool),o=some (v.1,v.2.1,v.2.2.1,v.2.2.2.1.1,v.2.2.2.1.2,v.2.2.2.2.2.2.1,L,(k':Int),ok',v.2.2.2.2.1,v.2.2.2.2.2.1,v.2.2.2.2.2.2.2,())∧Rf viewS L k ok v k' ok') _ (Eq.trans ?_ e9) ?_
  · kernel_rfl
  simp only [Option.bind_some]
  have c1:=r1.le
  have c3:=r3.le
  have c4:=r4.le
  have c5:=r5.le
  have c7:=r7.le
  have c9:=r9.le
  have n7:o7=false→o9=false:=r9.no
  have n5:o5=false→o9=false:=fun h=>n7 (r7.no (by rw [h];rfl))
  have n4:o4=false→o9=false:=fun h=>n5 (r5.no h)
  have n3:o3=false→o9=false:=fun h=>n4 (r4.no h)
  have n1:o1=false→o9=false:=fun h=>n3 (r3.no (by rw [h];rfl))
  have hcol:decide ((p.length:Int)>(40:Int))= !decide (p.length≤40):=by
    by_cases h:p.length≤40
    · rw [decide_eq_true h];simp only [Bool.not_true,decide_eq_false_iff_not];omega
    · rw [decide_eq_false h];simp only [Bool.not_false,decide_eq_true_eq];omega
  have hchk:decide ((gs.length:Int)>(40:Int))= !decide (gs.length≤40):=by
    by_cases h:gs.length≤40
    · rw [decide_eq_true h];simp only [Bool.not_true,decide_eq_false_iff_not];omega
    · rw [decide_eq_false h];simp only [Bool.not_false,decide_eq_true_eq];omega
  refine ⟨(v1,(v3,(j.1,(j.2,(w,(p,(tkb (⟨#[103,114,111,117,112]⟩:ByteArray) L k7,gs))))))),k9,(o9&&decide (p.length≤40))&&decide (gs.length≤40),?_,by omega,r9.hi,fun h=>by rw [n1 (r1.no h)];rfl,fun h=>?_⟩
  · rw [hcol,hchk]
    cases decide (p.length≤40)<;>cases decide (gs.length≤40)<;>simp
  · unfold viewS
    rw [r1.yes h]
    cases o1 with
    |false=>rw [n1 rfl];rfl
    |true=>
      simp only [cond_true,Option.bind_some,tk_d]
      cases hb1:tkb (⟨#[102,114,111,109]⟩:ByteArray) L k1 with
      |false=>rw [n3 (r3.no (by rw [hb1];rfl))];rfl
      |true=>
        simp only [cond_true,Option.bind_some]
        have y3:=r3.yes (by rw [hb1];rfl)
        have hk1:kI (tkb (⟨#[102,114,111,109]⟩:ByteArray) L k1) k1=k1+1:=by rw [hb1];rfl
        rw [hk1] at y3
        rw [y3]
        cases o3 with
        |false=>rw [n3 rfl];rfl
        |true=>
          simp only [cond_true,Option.bind_some]
          rw [r4.yes rfl]
          cases o4 with
          |false=>rw [n4 rfl];rfl
          |true=>
            simp only [cond_true,Option.bind_some]
            rw [r5.yes rfl]
            cases o5 with
            |false=>rw [n5 rfl];rfl
            |true=>
              simp only [cond_true,Option.bind_some,tk_d]
              cases hb5:tkb (⟨#[112,105,99,107]⟩:ByteArray) L k5 with
              |false=>rw [n7 (r7.no (by rw [hb5];rfl))];rfl
              |true=>
                simp only [cond_true,Option.bind_some]
                have y7:=r7.yes (by rw [hb5];rfl)
                have hk5:kI (tkb (⟨#[112,105,99,107]⟩:ByteArray) L k5) k5=k5+1:=by rw [hb5];rfl
                rw [hk5] at y7
                rw [pickS_U (L.length+100) (by omega),y7]
                cases o7 with
                |false=>rw [n7 rfl];rfl
                |true=>
                  simp only [cond_true,Option.bind_some]
                  by_cases hl:p.length≤40
                  · rw [if_pos hl,decide_eq_true hl]
                    simp only [Option.bind_some,Bool.and_true]
                    rw [groupS_U (L.length+100) (by omega)]
                    have y9:=r9.yes rfl
                    unfold groupU
                    rw [tk_d]
                    cases hb7:tkb (⟨#[103,114,111,117,112]⟩:ByteArray) L k7 with
                    |false=>
                      have hk7:kI (tkb (⟨#[103,114,111,117,112]⟩:ByteArray) L k7) k7=k7:=by rw [hb7];rfl
                      rw [hk7,hb7,if_pos (.inl rfl)] at y9
                      simp only [cond_false,Option.bind_some]
                      cases o9 with
                      |false=>cases y9
                      |true=>
                        simp only [cond_true,Option.some.injEq,Prod.mk.injEq] at y9
                        obtain ⟨z1,z2⟩:=y9
                        rw [←z1,←z2]
                        rfl
                    |true=>
                      have hk7:kI (tkb (⟨#[103,114,111,117,112]⟩:ByteArray) L k7) k7=k7+1:=by rw [hb7];rfl
                      rw [hk7,hb7] at y9
                      simp only [cond_true]
                      by_cases h0:L.drop (k7+1)=[]
                      · rw [if_pos (.inr h0)] at y9
                        rw [if_pos h0]
                        cases o9 with
                        |false=>cases y9
                        |true=>
                          simp only [cond_true,Option.some.injEq,Prod.mk.injEq] at y9
                          obtain ⟨z1,z2⟩:=y9
                          rw [←z1,←z2]
                          rfl
                      · rw [if_neg (by rintro (h|h);exact absurd h (by decide);exact h0 h)] at y9
                        rw [if_neg h0,y9]
                        cases o9 with
                        |false=>rfl
                        |true=>
                          simp only [cond_true,Option.map_some,Option.bind_some,Bool.true_and]
                          by_cases hc:gs.length≤40
                          · rw [if_pos hc,decide_eq_true hc];rfl
                          · rw [if_neg hc,decide_eq_false hc];rfl
                  · rw [if_neg hl,decide_eq_false hl,Bool.and_false,Bool.false_and];rfl
end Go.Proofs.Ytniojllnooblcaa
end
section
namespace Go.Proofs.Ytniojllnooblcaa
open Go Lv Go.Proofs Go.RowKit Go.Shelf Dl
theorem rParse_s (s : ByteArray) : R07_Parse.F (s,()) = some (flatP (readS s.data.toList)) := by
  rw [R07_Parse.eq]
  unfold R07_Parse.B
  simp only [rLex_s,Option.bind_some,readS]
  have hsz:s.data.toList.length=s.size:=rfl
  rw [hsz]
  by_cases hb:20000<s.size
  · rw [if_pos hb,if_pos hb];rfl
  · rw [if_neg hb,if_neg hb]
    cases h1:lexS s.data.toList with
    |none=>rfl
    |some l=>
      have hl:=lex_sm (s:=s.data.toList) (by rw [hsz];omega) h1
      have hL:TL l:=⟨hl.1,(lexS_ok _ s.data.toList (Nat.le_refl _) l h1).1⟩
      simp only [lexR,List.nil_append]
      rw [show ((0:Int) !=(0:Int))=false from rfl]
      simp only [cond_false]
      obtain ⟨v,k1,o1,e1,r1,g1,g2⟩:=rOne_s [(⟨#[116,97,98,108,101]⟩:ByteArray),(⟨#[118,105,101,119]⟩:ByteArray)] (by decide) l hL 0 true (Nat.zero_le _)
      have e1':R07_Parser_one.F ([(⟨#[116,97,98,108,101]⟩:ByteArray),(⟨#[118,105,101,119]⟩:ByteArray)],l,(0:Int),true,())=some (v,l,(k1:Int),o1,()):=e1
      rw [e1']
      simp only [Option.bind_some]
      have hy:=r1.yes rfl
      rw [List.drop_zero] at hy
      unfold parseS defS
      rw [hy]
      cases o1 with
      |false=>rfl
      |true=>
        simp only [cond_true,Option.bind_some]
        have e2:∀k:Nat,k≤l.length→decide ((k:Int)<(l.length:Int))= !decide (l.drop k=[]):=fun k _=>ltl
        by_cases h0:v=0
        · have b0:(v==(0:Int))=true:=by simp [h0]
          obtain ⟨t,k2,o2,e3,r2⟩:=rTable_p l hL k1 true r1.hi
          have y2:=r2.yes rfl
          simp only [b0,cond_true,e3,Option.bind_some,if_pos h0,y2]
          cases o2 with
          |false=>rfl
          |true=>
            simp only [Bool.not_true,cond_false,cond_true,Option.map_some,Option.bind_some]
            have hd:l.drop k2=[]↔l.length≤k2:=List.drop_eq_nil_iff
            by_cases h4:l.drop k2=[]
            · refine (cdF (by have:=hd.1 h4;omega)).trans ?_
              simp only [h4,if_true,h0];rfl
            · refine (cdT (Int.ofNat_lt.2 (Nat.lt_of_not_le fun h=>h4 (hd.2 h)))).trans ?_
              simp only [h4,if_false];rfl
        · have b0:(v==(0:Int))=false:=by simp [h0]
          obtain ⟨t,k2,o2,e3,r2⟩:=rView_p l hL k1 true r1.hi
          have y2:=r2.yes rfl
          simp only [b0,cond_false,cond_true,e3,Option.bind_some,if_neg h0,y2]
          cases o2 with
          |false=>rfl
          |true=>
            simp only [Bool.not_true,cond_false,cond_true,Option.map_some,Option.bind_some]
            have hd:l.drop k2=[]↔l.length≤k2:=List.drop_eq_nil_iff
            by_cases h4:l.drop k2=[]
            · refine (cdF (by have:=hd.1 h4;omega)).trans ?_
              simp only [h4,if_true];rfl
            · refine (cdT (Int.ofNat_lt.2 (Nat.lt_of_not_le fun h=>h4 (hd.2 h)))).trans ?_
              simp only [h4,if_false];rfl
end Go.Proofs.Ytniojllnooblcaa
end
end
section
section
namespace Go.Proofs.Ytniojllnooblcaa
open Go Lv Go.Proofs Go.RowKit Go.Shelf Dl
def catL (ws:List ByteArray):List UInt8:=ws.flatMap fun w=>32::w.data.toList
theorem catL_app (a b:List ByteArray):catL (a++b)=catL a++catL b:=by simp [catL]
theorem catL_nil:catL []=[]:=rfl
theorem catL_cons (w:ByteArray) (l:List ByteArray):catL (w::l)=32::w.data.toList++catL l:=by simp [catL]
theorem fits {n:Nat} (h:n≤9223372036854775807):(!decide ((n:Int)>IntKind.i64.max))=true:=by
  rw [imax,Bool.not_eq_true',decide_eq_false_iff_not];omega
def rVal (v:Val):ByteArray:=if v.1=0 then (⟨#[110,117,108,108]⟩:ByteArray) else if v.1=1 then (if v.2.1=0 then (⟨#[102,97,108,115,101]⟩:ByteArray) else (⟨#[116,114,117,101]⟩:ByteArray)) else if v.1=2 then bs (Lib.itoa v.2.1) else if v.1=3 then bs (39::dbl v.2.2.data.toList++ [39]) else (⟨#[63]⟩:ByteArray)
theorem dbl_cons (c:UInt8) (r:List UInt8):dbl (c::r)=(if c=39 then [39,39] else [c])++dbl r:=by
  show (if c=39 then 39::39::dbl r else c::dbl r)=_
  split<;>rfl
theorem rText1_s (v : Val) (hi : I64 v.2.1) (hs : v.2.2.size ≤ 1000) : R01_Text.F (v.1,v.2.1,v.2.2,()) = some (rVal v,()) := by
  obtain ⟨k,n,s⟩:=v
  simp only at hi hs
  rw [R01_Text.eq]
  unfold R01_Text.B rVal
  simp only [b_eq]
  by_cases h0:k=0
  · simp only [h0,decide_true,cond_true,if_true]
  simp only [h0,decide_false,cond_false,if_false]
  by_cases h1:k=1
  · simp only [h1,decide_true,cond_true,if_true]
    by_cases h2:n=0
    · simp only [h2,decide_true,cond_true,if_true]
    · simp only [h2,decide_false,cond_false,if_false]
  simp only [h1,decide_false,cond_false,if_false]
  by_cases h2:k=2
  · simp only [h2,decide_true,cond_true,if_true,signed_s n hi,Option.bind_some]
  simp only [h2,decide_false,cond_false,if_false]
  by_cases h3:k=3
  · simp only [h3,decide_true,cond_true,if_true]
    rw [loop_f (S:=ByteArray×Int×Unit) (m:=fun x=>s.size-x.2.1.toNat) (I:=fun x=>∃k:Nat,x.2.1=(k:Int)∧k≤s.size∧x.1.size≤2*k+1)
      (f:=fun x=> .inl (x.1++bs (dbl (lst s x.2.1.toNat)),())) ?_ _ ⟨0,rfl,by omega,by show 1≤1;omega⟩]
    · simp only [Option.bind_some]
      have e:lst s (0:Int).toNat=s.data.toList:=rfl
      have hz:((⟨#[39]⟩:ByteArray)++bs (dbl s.data.toList)).size≤2001:=by
        have:=dbl_le s.data.toList
        have h1:s.data.toList.length=s.size:=rfl
        have h2:(bs (dbl s.data.toList)).size=(dbl s.data.toList).length:=bs_size _
        rw [ByteArray.size_append]
        have:((⟨#[39]⟩:ByteArray)).size=1:=rfl
        omega
      have hq:((⟨#[39]⟩:ByteArray)).size=1:=rfl
      rw [e]
      rw [fits (by omega)]
      simp only [cond_true]
      rw [show (⟨#[39]⟩:ByteArray)=bs [39] from rfl,bs_app,bs_app]
      rfl
    · rintro ⟨acc,x,⟨⟩⟩ ⟨j,hj,hle,hsz⟩
      simp only at hj hsz
      subst hj
      simp only [Int.toNat_natCast]
      by_cases hlt:j<s.size
      · left
        obtain ⟨c,r,e⟩:=lst_at hlt
        obtain ⟨_,e1,e2⟩:=lst_cons e
        have d1:decide ((j:Int)<(s.size:Int))=true:=by simp;omega
        have d0:decide (0≤(j:Int))=true:=by simp
        have w1:IntKind.i64.wrap ((j:Int)+(1:Int))=((j+1:Nat):Int):=wrap_s hlt (by omega)
        have w3:(decide ((j:Int)≤((j+1:Nat):Int))&&decide (((j+1:Nat):Int)≤(s.size:Int)))=true:=by simp only [Bool.and_eq_true,decide_eq_true_eq];omega
        have w4:s.extract j (j+1)=bs [c]:=by rw [ext_bs s j (j+1) (by omega),e];simp
        have c39:((c.toNat:Int)==(39:Int))=decide (c=39):=u8_eq c 39 (by decide)
        rw [b_eq] at c39
        have hq:((⟨#[39]⟩:ByteArray)).size=1:=rfl
        have hc1:(bs [c]).size=1:=rfl
        have f1:(!decide (((acc.size+((⟨#[39]⟩:ByteArray)).size:Nat):Int)>IntKind.i64.max))=true:=fits (by omega)
        have f2:(!decide ((((acc++(⟨#[39]⟩:ByteArray)).size+(bs [c]).size:Nat):Int)>IntKind.i64.max))=true:=fits (by rw [ByteArray.size_append];omega)
        have f3:(!decide (((acc.size+(bs [c]).size:Nat):Int)>IntKind.i64.max))=true:=fits (by omega)
        simp only [d1,d0,Bool.and_self,Bool.true_and,cond_true,e2,c39,w1,w3,w4,f1,f2,f3,Int.toNat_natCast]
        by_cases h9:c=39
        · simp only [h9,decide_true,cond_true]
          refine ⟨_,rfl,⟨j+1,rfl,by omega,?_⟩,by simp only [Int.toNat_natCast];omega,?_⟩
          · show (acc++(⟨#[39]⟩:ByteArray)++bs [39]).size≤_
            rw [ByteArray.size_append,ByteArray.size_append]
            have:(bs [39]).size=1:=rfl
            clear e1 e
            omega
          · simp only [Int.toNat_natCast]
            rw [e1,e,dbl_cons,if_pos h9,show (⟨#[39]⟩:ByteArray)=bs [39] from rfl,app_assoc,app_assoc]
            rfl
        · simp only [h9,decide_false,cond_false]
          refine ⟨_,rfl,⟨j+1,rfl,by omega,?_⟩,by simp only [Int.toNat_natCast];omega,?_⟩
          · show (acc++bs [c]).size≤_
            rw [ByteArray.size_append]
            clear e1 e
            omega
          · simp only [Int.toNat_natCast]
            rw [e1,e,dbl_cons,if_neg h9,app_assoc]
      · right
        have:lst s j=[]:=by
          have:=lst_len s j
          exact List.length_eq_zero_iff.1 (by omega)
        have d1:decide ((j:Int)<(s.size:Int))=false:=by simp;omega
        rw [this]
        simp only [d1,cond_false]
        rw [show dbl []=[] from rfl,app_nil]
  · simp only [h3,decide_false,cond_false,if_false]
def rMay (v:Val):Bool:=if v.1=0∨v.1=1 then decide (v.2.2=e0)&&(decide (0≤v.2.1)&&decide (v.2.1≤v.1)) else if v.1=2 then decide (v.2.2=e0) else if v.1=3 then decide (v.2.1=0)&&decide (v.2.2.size≤1000) else false
theorem rMay_s (v:Val):R01_May.F (v.1,v.2.1,v.2.2,())=some (rMay v,()):=by
  obtain ⟨k,n,s⟩:=v
  rw [R01_May.eq]
  unfold R01_May.B rMay
  simp only [b_eq,beq_bytes]
  have hn:decide (n≥(0:Int))=decide (0≤n):=rfl
  have hs:decide ((s.size:Int)≤(1000:Int))=decide (s.size≤1000):=by simp only [decide_eq_decide];omega
  simp only [hn,hs]
  by_cases h0:k=0
  · simp only [h0,decide_true,cond_true,if_true,true_or,Option.bind_some]
    cases decide (s=e0)<;>cases decide (0≤n)<;>rfl
  simp only [h0,decide_false,cond_false,if_false,false_or]
  by_cases h1:k=1
  · simp only [h1,decide_true,cond_true,if_true,Option.bind_some]
    cases decide (s=e0)<;>cases decide (0≤n)<;>rfl
  simp only [h1,decide_false,cond_false,if_false,Option.bind_some]
  by_cases h2:k=2
  · simp only [h2,decide_true,cond_true,if_true]
  simp only [h2,decide_false,cond_false,if_false]
  by_cases h3:k=3
  · simp only [h3,decide_true,cond_true,if_true]
    cases decide (n=0)<;>rfl
  · simp only [h3,decide_false,cond_false,if_false]
abbrev ops11:List ByteArray:=[e0,e0,(⟨#[43]⟩:ByteArray),(⟨#[45]⟩:ByteArray),(⟨#[42]⟩:ByteArray),(⟨#[61]⟩:ByteArray),(⟨#[60]⟩:ByteArray),(⟨#[97,110,100]⟩:ByteArray),(⟨#[111,114]⟩:ByteArray),(⟨#[110,111,116]⟩:ByteArray),(⟨#[110,117,108,108,63]⟩:ByteArray)]
def r3W (x:Dl.Node):ByteArray:=if x.1=0 then bs (99::Lib.itoa x.2.1) else if x.1=1 then rVal x.2.2 else if x.1<0∨10<x.1 then (⟨#[63]⟩:ByteArray) else ops11.getD x.1.toNat e0
def rStepW (x:Dl.Node):ByteArray:=if x.1=10 then (⟨#[110,117,108,108,32,63]⟩:ByteArray) else if x.1=1∧x.2.2.1<2∧rMay x.2.2=false then (⟨#[33]⟩:ByteArray) else r3W x
end Go.Proofs.Ytniojllnooblcaa
end
section
namespace Go.Proofs.Ytniojllnooblcaa
open Go Lv Go.Proofs Go.RowKit Go.Shelf Dl
theorem rVal_size {v : Val} (hi : I64 v.2.1) (hs : v.2.2.size ≤ 1000) : (rVal v).size ≤ 2100 := by
  unfold rVal
  split
  · decide
  · split
    · split<;>decide
    · split
      · rw [bs_size];have:=itoa_len hi;omega
      · split
        · rw [bs_size]
          have:=dbl_le v.2.2.data.toList
          have h1:v.2.2.data.toList.length=v.2.2.size:=rfl
          simp only [List.length_append,List.length_cons,List.length_nil]
          omega
        · decide
theorem r3_s (x:Dl.Node) (hn:I64 x.2.1) (hi:I64 x.2.2.2.1) (hs:x.2.2.2.2.size≤1000):R03_Text.F ([(x.1,(x.2.1,(x.2.2.1,(x.2.2.2.1,x.2.2.2.2))))],())=some (r3W x,()):=by
  rw [R03_Text.eq]
  unfold R03_Text.B
  simp only []
  have hx:(x.1,(x.2.1,(x.2.2.1,(x.2.2.2.1,x.2.2.2.2))))=x:=rfl
  rw [hx]
  have hl:([x].length:Int)=1:=rfl
  have hg:List.getD [x] (Int.toNat 0) tNode.z=x:=rfl
  have hv:=rVal_size hi hs
  have hit:=itoa_len hn
  have hw0:IntKind.i64.wrap ((0:Int)+1)=1:=by decide
  have he:∀b:ByteArray,(⟨#[]⟩:ByteArray)++b=b:=fun b=>by
    apply Go.WideShapes.bytes_inj;simp
  have hz:(⟨#[]⟩:ByteArray).size=0:=rfl
  have f:∀b:ByteArray,b.size≤1000000→(!decide ((((⟨#[]⟩:ByteArray).size+b.size:Nat):Int)>IntKind.i64.max))=true:=fun b hb=>fits (by omega)
  rw [loopM_q]
  have d1:decide ((0:Int)<([x].length:Int))=true:=rfl
  have d2:decide ((0:Int)>(0:Int))=false:=rfl
  have d3:(decide (0≤(0:Int))&&decide ((0:Int)<([x].length:Int)))=true:=rfl
  have stop:∀b:ByteArray,(loopM (S:=ByteArray×Int×Unit) (R:=ByteArray×Unit) (fun (x4,x5,_)=>
  (bif (decide (x5<([x].length:Int))) then
  Option.bind (
  (bif (decide (x5>(0:Int))) then
  bif (!decide (((x4.size+(⟨#[32]⟩:ByteArray).size:Nat):Int)>IntKind.i64.max)) then
  let e1:ByteArray:=(x4++(⟨#[32]⟩:ByteArray))
  some (.inl (e1,()))
  else none
  else
  some (.inl (x4,()))):Option ((ByteArray×Unit)⊕_)) fun r2=>match r2 with
  | .inl (x4_2,_)=>
  (bif (decide (0≤x5)&&decide (x5<([x].length:Int))) then
  let e3:tNodeT:=(List.getD [x] (Int.toNat x5) tNode.z)
  (bif (e3.1==(0:Int)) then
  Option.bind (R01_Signed.F (e3.2.1,())) fun y4=>
  bif (!decide ((((⟨#[99]⟩:ByteArray).size+y4.1.size:Nat):Int)>IntKind.i64.max)) then
  let e5:ByteArray:=((⟨#[99]⟩:ByteArray)++y4.1)
  bif (!decide (((x4_2.size+e5.size:Nat):Int)>IntKind.i64.max)) then
  let e6:ByteArray:=(x4_2++e5)
  let e7:Int:=(IntKind.i64.wrap (x5+(1:Int)))
  some (.inl (e6,e7,()))
  else none
  else none
  else
  (bif (e3.1==(1:Int)) then
  Option.bind (R01_Text.F (e3.2.2.1,e3.2.2.2.1,e3.2.2.2.2,())) fun y8=>
  bif (!decide (((x4_2.size+y8.1.size:Nat):Int)>IntKind.i64.max)) then
  let e9:ByteArray:=(x4_2++y8.1)
  let e10:Int:=(IntKind.i64.wrap (x5+(1:Int)))
  some (.inl (e9,e10,()))
  else none
  else
  (bif (decide (e3.1<(0:Int))) then
  bif (!decide (((x4_2.size+(⟨#[63]⟩:ByteArray).size:Nat):Int)>IntKind.i64.max)) then
  let e11:ByteArray:=(x4_2++(⟨#[63]⟩:ByteArray))
  let e12:Int:=(IntKind.i64.wrap (x5+(1:Int)))
  some (.inl (e11,e12,()))
  else none
  else
  (bif (decide (e3.1>(10:Int))) then
  bif (!decide (((x4_2.size+(⟨#[63]⟩:ByteArray).size:Nat):Int)>IntKind.i64.max)) then
  let e13:ByteArray:=(x4_2++(⟨#[63]⟩:ByteArray))
  let e14:Int:=(IntKind.i64.wrap (x5+(1:Int)))
  some (.inl (e13,e14,()))
  else none
  else
  bif (decide (0≤e3.1)&&decide (e3.1<(ops11.length:Int))) then
  let e15:ByteArray:=(List.getD ops11 (Int.toNat e3.1) (⟨#[]⟩:ByteArray))
  bif (!decide (((x4_2.size+e15.size:Nat):Int)>IntKind.i64.max)) then
  let e16:ByteArray:=(x4_2++e15)
  let e17:Int:=(IntKind.i64.wrap (x5+(1:Int)))
  some (.inl (e16,e17,()))
  else none
  else none))))
  else none)
  | .inr r=>some r
  else
  some (.inr (x4,())))) (b,(1:Int),()))=some (b,()):=fun b=>by rw [loopM_q];rfl
  simp only [d1,d2,d3,cond_true,cond_false,Option.bind_some,hg,b_eq,hw0]
  unfold r3W
  by_cases h0:x.1=0
  · simp only [h0,decide_true,cond_true,signed_s _ hn,Option.bind_some,if_true]
    have e1:(⟨#[99]⟩:ByteArray)++bs (Lib.itoa x.2.1)=bs (99::Lib.itoa x.2.1):=by rw [show (⟨#[99]⟩:ByteArray)=bs [99] from rfl,bs_app];rfl
    have hq:(⟨#[99]⟩:ByteArray).size=1:=rfl
    rw [fits (by rw [hq,bs_size];omega),e1]
    simp only [cond_true,he]
    rw [f _ (by rw [bs_size];simp only [List.length_cons];omega)]
    simp only [cond_true]
    exact stop _
  simp only [h0,decide_false,cond_false,if_false]
  by_cases h1:x.1=1
  · simp only [h1,decide_true,cond_true,rText1_s x.2.2 hi hs,Option.bind_some,if_true,he]
    rw [f _ (by omega)]
    simp only [cond_true]
    exact stop _
  simp only [h1,decide_false,cond_false,if_false]
  by_cases h2:x.1<0
  · rw [decide_eq_true h2,if_pos (.inl h2)]
    simp only [cond_true,he]
    rw [f _ (by decide)]
    exact stop _
  rw [decide_eq_false h2]
  simp only [cond_false]
  by_cases h3:10<x.1
  · have:decide (x.1>(10:Int))=true:=decide_eq_true h3
    rw [this,if_pos (.inr h3)]
    simp only [cond_true,he]
    rw [f _ (by decide)]
    exact stop _
  · have:decide (x.1>(10:Int))=false:=decide_eq_false h3
    rw [this,if_neg (by omega)]
    simp only [cond_false]
    have d4:(decide (0≤x.1)&&decide (x.1<((ops11.length:Nat):Int)))=true:=by
      have:((ops11.length:Nat):Int)=11:=rfl
      rw [this]
      simp only [Bool.and_eq_true,decide_eq_true_eq];omega
    have hsz:(List.getD ops11 (Int.toNat x.1) e0).size≤1000000:=by
      have:∀n:Nat,n<11→(List.getD ops11 n e0).size≤1000000:=by decide
      exact this _ (by omega)
    rw [d4]
    simp only [cond_true]
    rw [f _ hsz]
    simp only [cond_true,he]
    exact stop _
end Go.Proofs.Ytniojllnooblcaa
end
section
namespace Go.Proofs.Ytniojllnooblcaa
open Go Lv Go.Proofs Go.RowKit Go.Shelf Dl
theorem r3W_size {x : Dl.Node} (hn : I64 x.2.1) (hi : I64 x.2.2.2.1) (hs : x.2.2.2.2.size ≤ 1000) : (r3W x).size ≤ 2100 := by
  unfold r3W
  split
  · rw [bs_size];have:=itoa_len hn;simp only [List.length_cons];omega
  · split
    · exact rVal_size hi hs
    · split
      · decide
      · rename_i h
        have:∀n:Nat,n<11→(List.getD ops11 n e0).size≤2100:=by decide
        exact this _ (by omega)
theorem rStepW_size {x:Dl.Node} (hn:I64 x.2.1) (hi:I64 x.2.2.2.1) (hs:x.2.2.2.2.size≤1000):(rStepW x).size≤2100:=by
  unfold rStepW
  split
  · decide
  · split
    · decide
    · exact r3W_size hn hi hs
theorem rStepText_s (x:Dl.Node) (hn:I64 x.2.1) (hi:I64 x.2.2.2.1) (hs:x.2.2.2.2.size≤1000):R07_stepText.F (x.1,x.2.1,x.2.2.1,x.2.2.2.1,x.2.2.2.2,())=some (rStepW x,()):=by
  rw [R07_stepText.eq]
  unfold R07_stepText.B rStepW
  simp only [r3_s x hn hi hs,Option.bind_some,b_eq,rMay_s x.2.2]
  by_cases h0:x.1=10
  · simp only [h0,decide_true,cond_true,if_true]
  simp only [h0,decide_false,cond_false,if_false]
  by_cases h1:x.1=1
  · simp only [h1,decide_true,cond_true,true_and]
    by_cases h2:x.2.2.1<2
    · rw [decide_eq_true h2]
      simp only [cond_true,h2,true_and]
      cases rMay x.2.2<;>simp
    · rw [decide_eq_false h2]
      simp only [cond_false,h2,false_and,if_false]
  · simp only [h1,decide_false,cond_false,false_and,if_false]
def ap (x:ByteArray) (ws:List ByteArray):ByteArray:=x++bs (catL ws)
theorem ap_ap (x:ByteArray) (a b:List ByteArray):ap (ap x a) b=ap x (a++b):=by
  unfold ap;rw [app_assoc,catL_app]
theorem ap_nil (x:ByteArray):ap x []=x:=app_nil x
theorem ap_size (x:ByteArray) (ws:List ByteArray):(ap x ws).size=x.size+(catL ws).length:=by
  unfold ap
  have:(bs (catL ws)).size=(catL ws).length:=bs_size _
  rw [ByteArray.size_append,this]
theorem bytes_ext {a b:ByteArray} (h:a.data.toList=b.data.toList):a=b:=Go.WideShapes.bytes_inj h
theorem sp_w (w:ByteArray):(⟨#[32]⟩:ByteArray)++w=bs (catL [w]):=bytes_ext (by simp [catL])
/--a loop that adds words -/
def seqW {α:Type} (f:Bool→α→List ByteArray):Bool→List α→List ByteArray
  |_,[]=> []
  |b,x::r=>f b x++seqW f true r
theorem seqW_sep {α:Type} (g:α→List ByteArray):∀(l:List α) (b:Bool),seqW (fun b x=>(if b then [(⟨#[44]⟩:ByteArray)] else [])++g x) b l=sepW g b l:=by
  intro l
  induction l with
  |nil=>intro b;rfl
  |cons x l ih=>intro b;simp only [seqW,sepW,ih]
theorem seqW_flat {α:Type} (g:α→List ByteArray):∀(l:List α) (b:Bool),seqW (fun _ x=>g x) b l=l.flatMap g:=by
  intro l
  induction l with
  |nil=>intro b;rfl
  |cons x l ih=>intro b;simp only [seqW,List.flatMap_cons,ih]
theorem cat_loop {α R:Type} {body:ByteArray×Int×Unit→Option ((ByteArray×Int×Unit)⊕R)} (l:List α) (hl:l.length≤400) (f:Bool→α→List ByteArray) (B base:Nat) (hB:B≤1000000)
    (hf:∀b,∀x∈l,(catL (f b x)).length≤B) (fin:ByteArray→R)
    (h1:∀(k:Nat) (hk:k<l.length) x,x.size≤base+B*k→body (x,(k:Int),())=some (.inl (ap x (f (decide (0<k)) l[k]),((k+1:Nat):Int),())))
    (h2:∀x,body (x,(l.length:Int),())=some (.inr (fin x))) (x:ByteArray) (hx:x.size≤base):
    loopM body (x,(0:Int),())=some (fin (ap x (seqW f false l)))∧(ap x (seqW f false l)).size≤base+B*l.length:=by
  have go:∀(n k:Nat),n+k=l.length→∀x,x.size≤base+B*k→loopM body (x,(k:Int),())=some (fin (ap x (seqW f (decide (0<k)) (l.drop k))))∧(ap x (seqW f (decide (0<k)) (l.drop k))).size≤base+B*l.length:=by
    intro n
    induction n with
    |zero=>
      intro k hk x hx
      have:k=l.length:=by omega
      subst this
      rw [loopM_q,h2 x,List.drop_length]
      simp only [seqW,ap_nil]
      exact ⟨trivial,hx⟩
    |succ n ih=>
      intro k hk x hx
      have hlt:k<l.length:=by omega
      rw [loopM_q,h1 k hlt x hx]
      simp only
      have hfl:=hf (decide (0<k)) _ (List.getElem_mem hlt)
      have hm:B*(k+1)=B*k+B:=Nat.mul_succ B k
      obtain ⟨i1,i2⟩:=ih (k+1) (by omega) (ap x (f (decide (0<k)) l[k])) (by rw [ap_size];omega)
      rw [ap_ap,show decide (0<k+1)=true by simp] at i1 i2
      rw [List.drop_eq_getElem_cons hlt]
      simp only [seqW]
      exact ⟨i1,i2⟩
  exact go l.length 0 rfl x (by omega)
theorem cat_loop_b {α R Q:Type} {body:ByteArray×Int×Unit→Option ((ByteArray×Int×Unit)⊕R)} {K:R→Option Q} {q:Option Q} (l:List α) (hl:l.length≤400) (f:Bool→α→List ByteArray) (B base:Nat) (hB:B≤1000000)
    (hf:∀b,∀x∈l,(catL (f b x)).length≤B) (fin:ByteArray→R) (x:ByteArray) (hx:x.size≤base)
    (h1:∀(k:Nat) (hk:k<l.length) x,x.size≤base+B*k→body (x,(k:Int),())=some (.inl (ap x (f (decide (0<k)) l[k]),((k+1:Nat):Int),())))
    (h2:∀x,body (x,(l.length:Int),())=some (.inr (fin x)))
    (hP:(ap x (seqW f false l)).size≤base+B*l.length→K (fin (ap x (seqW f false l)))=q):Option.bind (loopM body (x,(0:Int),())) K=q:=by
  obtain ⟨g1,g2⟩:=cat_loop l hl f B base hB hf fin h1 h2 x hx
  rw [g1]
  exact hP g2
/--the steps whose texts are not too long -/
def EF2 (e:List tNodeT):Prop:=EFit e∧∀x∈e,x.2.2.2.2.size≤1000
def rExprW (e:List tNodeT):List ByteArray:=(⟨#[91]⟩:ByteArray)::e.map rStepW++ [(⟨#[93]⟩:ByteArray)]
theorem catL_one (w:ByteArray):(catL [w]).length=w.size+1:=by
  rw [catL_cons,catL_nil,List.append_nil]
  have:w.data.toList.length=w.size:=rfl
  simp only [List.length_cons];omega
theorem map_flat {α:Type} (g:α→ByteArray) (l:List α):l.flatMap (fun x=> [g x])=l.map g:=by
  induction l with
  |nil=>rfl
  |cons x l ih=>simp [List.flatMap_cons,ih]
theorem rExprText_s (e : List tNodeT) (he : EF2 e) : R07_exprText.F (e,()) = some (bs (catL (rExprW e)),()) ∧ (catL (rExprW e)).length ≤ 300000 := by
  rw [R07_exprText.eq]
  unfold R07_exprText.B
  simp only []
  obtain ⟨⟨hl,hi⟩,hs⟩:=he
  have hall:(catL (rExprW e)).length≤300000:=by
    have:∀l:List tNodeT,(∀x∈l,(rStepW x).size≤2100)→(catL (l.map rStepW)).length≤2101*l.length:=by
      intro l
      induction l with
      |nil=>intro _;simp [catL]
      |cons x l ih=>
        intro h
        have h1:=ih fun y hy=>h y (List.mem_cons_of_mem _ hy)
        have h2:=h x (by simp)
        have h3:(rStepW x).data.toList.length=(rStepW x).size:=rfl
        rw [List.map_cons,catL_cons]
        simp only [List.length_append,List.length_cons]
        omega
    have h:=this e fun x hx=>rStepW_size (hi x hx).2.1 (hi x hx).2.2 (hs x hx)
    have e1:catL (rExprW e)=catL [(⟨#[91]⟩:ByteArray)]++catL (e.map rStepW)++catL [(⟨#[93]⟩:ByteArray)]:=by
      rw [←catL_app,←catL_app];rfl
    rw [e1,List.length_append,List.length_append,catL_one,catL_one]
    have:((⟨#[91]⟩:ByteArray)).size=1:=rfl
    have:((⟨#[93]⟩:ByteArray)).size=1:=rfl
    have:2101*e.length≤2101*120:=Nat.mul_le_mul_left _ hl
    omega
  refine ⟨?_,hall⟩
  refine cat_loop_b (α:=tNodeT) e (by omega) (fun _ x=> [rStepW x]) 2101 2 (by decide)
    (fun b x hx=>by have:=rStepW_size (hi x hx).2.1 (hi x hx).2.2 (hs x hx);rw [catL_one];omega) (fun x=> .inl (x,()))
    (bs (catL [(⟨#[91]⟩:ByteArray)])) (by rw [bs_size,catL_one];decide) ?_ ?_ ?_
  · intro k hk x hx
    have d1:decide ((k:Int)<(e.length:Int))=true:=by simp;omega
    have d0:decide (0≤(k:Int))=true:=by simp
    have hm:=List.getElem_mem hk
    have hz:=rStepW_size (hi _ hm).2.1 (hi _ hm).2.2 (hs _ hm)
    have hq:((⟨#[32]⟩:ByteArray)).size=1:=rfl
    have hk2:2101*k≤2101*120:=Nat.mul_le_mul_left _ (by omega)
    simp only [d1,d0,Bool.and_self,cond_true,Int.toNat_natCast,getD_at hk,rStepText_s e[k] (hi _ hm).2.1 (hi _ hm).2.2 (hs _ hm),Option.bind_some,wrap_s hk (show e.length<9223372036854775808 by omega)]
    rw [fits (by omega)]
    simp only [cond_true]
    rw [fits (by rw [ByteArray.size_append];omega)]
    simp only [cond_true,sp_w]
    rfl
  · intro x
    have d1:decide ((e.length:Int)<(e.length:Int))=false:=by simp
    simp only [d1,cond_false]
  · intro hsz
    simp only []
    have hq:((⟨#[32,93]⟩:ByteArray)).size=2:=rfl
    have hk2:2101*e.length≤2101*120:=Nat.mul_le_mul_left _ (by omega)
    rw [fits (by omega)]
    simp only [cond_true]
    rw [seqW_flat (fun x=> [rStepW x]),map_flat]
    have:ap (bs (catL [(⟨#[91]⟩:ByteArray)])) (e.map rStepW)++(⟨#[32,93]⟩:ByteArray)=bs (catL (rExprW e)):=by
      rw [show (⟨#[32,93]⟩:ByteArray)=bs (catL [(⟨#[93]⟩:ByteArray)]) from rfl]
      unfold ap
      rw [bs_app,bs_app,←catL_app,←catL_app]
      rfl
    rw [this]
theorem rPick_w (n:Int) (ws:List ByteArray):R07_pick.F (n,ws,())=some (wordW n ws,()):=by
  rw [R07_pick.eq]
  unfold R07_pick.B wordW
  simp only []
  by_cases h1:n<0
  · rw [decide_eq_true h1,if_pos (.inl h1)];rfl
  · rw [decide_eq_false h1]
    simp only [cond_false]
    by_cases h2:(ws.length:Int)≤n
    · have:decide (n≥(ws.length:Int))=true:=decide_eq_true h2
      rw [this,if_pos (.inr h2)];rfl
    · have:decide (n≥(ws.length:Int))=false:=decide_eq_false h2
      have d:(decide (0≤n)&&decide (n<(ws.length:Int)))=true:=by simp only [Bool.and_eq_true,decide_eq_true_eq];omega
      rw [this,if_neg (by omega),d];rfl
end Go.Proofs.Ytniojllnooblcaa
end
section
namespace Go.Proofs.Ytniojllnooblcaa
open Go Lv Go.Proofs Go.RowKit Go.Shelf Dl
theorem opt_add {R:Type} (b:Bool) (x s:ByteArray) (ws:List ByteArray) (hs:s=bs (catL ws)) (h:x.size+s.size≤9223372036854775807):
    (bif b then bif (!decide (((x.size+s.size:Nat):Int)>IntKind.i64.max)) then some (.inl (x++s,())) else none else some (.inl (x,())):Option ((ByteArray×Unit)⊕R))=some (.inl (ap x (if b then ws else []),())):=by
  cases b with
  |false=>simp only [cond_false,Bool.false_eq_true,if_false,ap_nil]
  |true=>
    rw [fits h,hs]
    simp only [cond_true,if_true]
    rfl
theorem catL_le:∀(l:List ByteArray),WB l→(catL l).length≤2101*l.length:=by
  intro l
  induction l with
  |nil=>intro _;simp [catL]
  |cons w l ih=>
    intro h
    have h1:=ih fun y hy=>h y (List.mem_cons_of_mem _ hy)
    have h2:w.data.toList.length≤2100:=h w (by simp)
    rw [catL_cons]
    simp only [List.length_append,List.length_cons]
    omega
theorem colW_wb {c:Col} (h1:c.1.size≤100) (h2:c.2.2.2.2.1.size≤100):WB (colW c):=by
  unfold colW
  have w1:(wordW (IntKind.i64.wrap (c.2.1-1)) kinds).size≤30:=wordW_size (by decide)
  have w2:(wordW c.2.2.2.2.2 acts).size≤30:=wordW_size (by decide)
  exact .app (.cons (by omega) (.cons (by omega) .nil)) (.app (.ite (.cons (by decide) .nil) .nil) (.app (.ite (.cons (by decide) .nil) .nil) (.ite .nil (.cons (by decide) (.cons (by omega) (.cons (by omega) .nil))))))
def commaW {α:Type} (g:α→List ByteArray) (b:Bool) (x:α):List ByteArray:=(if b then [(⟨#[44]⟩:ByteArray)] else [])++g x
theorem commaW_wb {α:Type} {g:α→List ByteArray} {b:Bool} {x:α} (h:WB (g x)):WB (commaW g b x):=.app (.ite (.cons (by decide) .nil) .nil) h
theorem commaW_len {α:Type} {g:α→List ByteArray} {b:Bool} {x:α} (h:(g x).length≤8):(commaW g b x).length≤9:=by
  unfold commaW
  rw [List.length_append]
  have:(if b then [(⟨#[44]⟩:ByteArray)] else ([]:List ByteArray)).length≤1:=by split<;>simp
  omega
theorem commaW_cat {α:Type} {g:α→List ByteArray} {b:Bool} {x:α} (h:WB (g x)) (hl:(g x).length≤8):(catL (commaW g b x)).length≤18909:=by
  have h1:=catL_le _ (commaW_wb (b:=b) h)
  have h2:=commaW_len (b:=b) hl
  have:2101*(commaW g b x).length≤2101*9:=Nat.mul_le_mul_left _ h2
  omega
def rCheckW (e:List tNodeT):List ByteArray:=(⟨#[99,104,101,99,107]⟩:ByteArray)::rExprW e
/-- the words behind "table" -/
def rTableW (t:Tab):List ByteArray:=[t.1,(⟨#[40]⟩:ByteArray)]++sepW colW false t.2.1++ [(⟨#[41]⟩:ByteArray)]++t.2.2.flatMap rCheckW
theorem gt0 (k:Nat):decide ((k:Int)>(0:Int))=decide (0<k):=by simp only [decide_eq_decide];omega
theorem rTableText_s (n : ByteArray) (c : List Col) (k : List (List tNodeT)) (hn : n.size ≤ 100) (hc : c.length ≤ 400) (hk : k.length ≤ 400)
    (hcn:∀x∈c,x.1.size≤100∧x.2.2.2.2.1.size≤100) (he:∀e∈k,EF2 e):R07_tableText.F (n,c,k,())=some (ap (⟨#[116,97,98,108,101]⟩:ByteArray) (rTableW (n,(c,k))),()):=by
  rw [R07_tableText.eq]
  unfold R07_tableText.B
  simp only []
  have z1:((⟨#[116,97,98,108,101,32]⟩:ByteArray)).size=6:=rfl
  have z2:((⟨#[32,40]⟩:ByteArray)).size=2:=rfl
  rw [fits (by omega)]
  simp only [cond_true]
  rw [fits (by rw [ByteArray.size_append];omega)]
  simp only [cond_true]
  have e1:(⟨#[116,97,98,108,101,32]⟩:ByteArray)++n++(⟨#[32,40]⟩:ByteArray)=ap (⟨#[116,97,98,108,101]⟩:ByteArray) [n,(⟨#[40]⟩:ByteArray)]:=bytes_ext (by simp [ap,catL])
  rw [e1]
  have s1:(ap (⟨#[116,97,98,108,101]⟩:ByteArray) [n,(⟨#[40]⟩:ByteArray)]).size≤200:=by
    rw [ap_size,catL_cons,catL_cons,catL_nil]
    have h1:n.data.toList.length=n.size:=rfl
    have h2:((⟨#[40]⟩:ByteArray)).data.toList.length=1:=rfl
    have h3:((⟨#[116,97,98,108,101]⟩:ByteArray)).size=5:=rfl
    simp only [List.length_append,List.length_cons,List.length_nil]
    omega
  refine cat_loop_b (α:=Col) c hc (commaW colW) 18909 200 (by decide) (fun b x hx=>commaW_cat (colW_wb (hcn x hx).1 (hcn x hx).2) (colW_len x)) (fun x=> .inl (x,()))
    (ap (⟨#[116,97,98,108,101]⟩:ByteArray) [n,(⟨#[40]⟩:ByteArray)]) s1 ?_ ?_ ?_
  · intro j hj x hx
    have d1:decide ((j:Int)<(c.length:Int))=true:=by simp;omega
    have d0:decide (0≤(j:Int))=true:=by simp
    have hm:=List.getElem_mem hj
    obtain ⟨m1,m2⟩:=hcn _ hm
    have hj2:18909*j≤18909*400:=Nat.mul_le_mul_left _ (by omega)
    simp only [d1,d0,Bool.and_self,cond_true,Int.toNat_natCast,getD_at hj,wrap_s hj (show c.length<9223372036854775808 by omega),gt0]
    generalize c[j]=q at m1 m2
    obtain ⟨q1,q2,q3,q4,q5,q6⟩:=q
    simp only at m1 m2 ⊢
    have y1:((⟨#[32,44]⟩:ByteArray)).size=2:=rfl
    refine (bind_is (.inl (ap x (if decide (0<j) then [(⟨#[44]⟩:ByteArray)] else []),())) (opt_add _ x (⟨#[32,44]⟩:ByteArray) [(⟨#[44]⟩:ByteArray)] rfl (by omega))).trans ?_
    have a1:(ap x (if decide (0<j) then [(⟨#[44]⟩:ByteArray)] else [])).size≤x.size+10:=by
      rw [ap_size]
      have:(catL (if decide (0<j) then [(⟨#[44]⟩:ByteArray)] else [])).length≤10:=by split<;>decide
      omega
    generalize hx1:ap x (if decide (0<j) then [(⟨#[44]⟩:ByteArray)] else [])=x1 at a1
    simp only [rPick_w,Option.bind_some]
    have w1:(wordW (IntKind.i64.wrap (q2-1)) [(⟨#[98,111,111,108]⟩:ByteArray),(⟨#[105,110,116]⟩:ByteArray),(⟨#[116,101,120,116]⟩:ByteArray)]).size≤30:=wordW_size (by decide)
    have w2:(wordW q6 [(⟨#[114,101,115,116,114,105,99,116]⟩:ByteArray),(⟨#[99,97,115,99,97,100,101]⟩:ByteArray),(⟨#[115,101,116,110,117,108,108]⟩:ByteArray)]).size≤30:=wordW_size (by decide)
    have y2:((⟨#[32]⟩:ByteArray)).size=1:=rfl
    have t1:((⟨#[32]⟩:ByteArray)++q1).size=1+q1.size:=by rw [ByteArray.size_append];rfl
    have t2:((⟨#[32]⟩:ByteArray)++q1++(⟨#[32]⟩:ByteArray)).size=2+q1.size:=by rw [ByteArray.size_append,t1];omega
    have t3:((⟨#[32]⟩:ByteArray)++q1++(⟨#[32]⟩:ByteArray)++wordW (IntKind.i64.wrap (q2-1)) [(⟨#[98,111,111,108]⟩:ByteArray),(⟨#[105,110,116]⟩:ByteArray),(⟨#[116,101,120,116]⟩:ByteArray)]).size≤32+q1.size:=by rw [ByteArray.size_append,t2];omega
    rw [fits (by omega)]
    simp only [cond_true]
    rw [fits (by omega)]
    simp only [cond_true]
    rw [fits (by omega)]
    simp only [cond_true]
    rw [fits (by omega)]
    simp only [cond_true]
    have e2:x1++((⟨#[32]⟩:ByteArray)++q1++(⟨#[32]⟩:ByteArray)++wordW (IntKind.i64.wrap (q2-1)) [(⟨#[98,111,111,108]⟩:ByteArray),(⟨#[105,110,116]⟩:ByteArray),(⟨#[116,101,120,116]⟩:ByteArray)])=ap x1 [q1,wordW (IntKind.i64.wrap (q2-1)) [(⟨#[98,111,111,108]⟩:ByteArray),(⟨#[105,110,116]⟩:ByteArray),(⟨#[116,101,120,116]⟩:ByteArray)]]:=bytes_ext (by simp [ap,catL])
    have a2:(ap x1 [q1,wordW (IntKind.i64.wrap (q2-1)) [(⟨#[98,111,111,108]⟩:ByteArray),(⟨#[105,110,116]⟩:ByteArray),(⟨#[116,101,120,116]⟩:ByteArray)]]).size≤x1.size+200:=by rw [←e2,ByteArray.size_append];omega
    rw [e2]
    generalize hx2:ap x1 [q1,wordW (IntKind.i64.wrap (q2-1)) [(⟨#[98,111,111,108]⟩:ByteArray),(⟨#[105,110,116]⟩:ByteArray),(⟨#[116,101,120,116]⟩:ByteArray)]]=x2 at a2
    have y3:((⟨#[32,110,117,108,108]⟩:ByteArray)).size=5:=rfl
    refine (bind_is (.inl (ap x2 (if q3 then [(⟨#[110,117,108,108]⟩:ByteArray)] else []),())) (opt_add _ x2 (⟨#[32,110,117,108,108]⟩:ByteArray) [(⟨#[110,117,108,108]⟩:ByteArray)] rfl (by omega))).trans ?_
    have a3:(ap x2 (if q3 then [(⟨#[110,117,108,108]⟩:ByteArray)] else [])).size≤x2.size+10:=by
      rw [ap_size]
      have:(catL (if q3 then [(⟨#[110,117,108,108]⟩:ByteArray)] else [])).length≤10:=by split<;>decide
      omega
    generalize hx3:ap x2 (if q3 then [(⟨#[110,117,108,108]⟩:ByteArray)] else [])=x3 at a3
    simp only []
    have y4:((⟨#[32,117,110,105,113,117,101]⟩:ByteArray)).size=7:=rfl
    refine (bind_is (.inl (ap x3 (if q4 then [(⟨#[117,110,105,113,117,101]⟩:ByteArray)] else []),())) (opt_add _ x3 (⟨#[32,117,110,105,113,117,101]⟩:ByteArray) [(⟨#[117,110,105,113,117,101]⟩:ByteArray)] rfl (by omega))).trans ?_
    have a4:(ap x3 (if q4 then [(⟨#[117,110,105,113,117,101]⟩:ByteArray)] else [])).size≤x3.size+10:=by
      rw [ap_size]
      have:(catL (if q4 then [(⟨#[117,110,105,113,117,101]⟩:ByteArray)] else [])).length≤10:=by split<;>decide
      omega
    generalize hx4:ap x3 (if q4 then [(⟨#[117,110,105,113,117,101]⟩:ByteArray)] else [])=x4 at a4
    simp only [beq_bytes]
    have goal:ap x (commaW colW (decide (0<j)) (q1,q2,q3,q4,q5,q6))=ap x4 (if q5=e0 then [] else [(⟨#[114,101,102]⟩:ByteArray),q5,wordW q6 [(⟨#[114,101,115,116,114,105,99,116]⟩:ByteArray),(⟨#[99,97,115,99,97,100,101]⟩:ByteArray),(⟨#[115,101,116,110,117,108,108]⟩:ByteArray)]]):=by
      rw [←hx4,←hx3,←hx2,←hx1]
      simp only [ap_ap]
      unfold commaW colW
      simp only [List.append_assoc]
    rw [goal]
    by_cases h5:q5=e0
    · rw [decide_eq_true h5,if_pos h5,ap_nil];rfl
    · rw [decide_eq_false h5,if_neg h5]
      simp only [Bool.not_false,cond_true]
      have y5:((⟨#[32,114,101,102,32]⟩:ByteArray)).size=5:=rfl
      have u1:((⟨#[32,114,101,102,32]⟩:ByteArray)++q5).size=5+q5.size:=by rw [ByteArray.size_append];omega
      have u2:((⟨#[32,114,101,102,32]⟩:ByteArray)++q5++(⟨#[32]⟩:ByteArray)).size=6+q5.size:=by rw [ByteArray.size_append,u1];omega
      have u3:((⟨#[32,114,101,102,32]⟩:ByteArray)++q5++(⟨#[32]⟩:ByteArray)++wordW q6 [(⟨#[114,101,115,116,114,105,99,116]⟩:ByteArray),(⟨#[99,97,115,99,97,100,101]⟩:ByteArray),(⟨#[115,101,116,110,117,108,108]⟩:ByteArray)]).size≤36+q5.size:=by rw [ByteArray.size_append,u2];omega
      rw [fits (by omega)]
      simp only [cond_true]
      rw [fits (by omega)]
      simp only [cond_true]
      rw [fits (by omega)]
      simp only [cond_true]
      rw [fits (by omega)]
      simp only [cond_true]
      have e3:x4++((⟨#[32,114,101,102,32]⟩:ByteArray)++q5++(⟨#[32]⟩:ByteArray)++wordW q6 [(⟨#[114,101,115,116,114,105,99,116]⟩:ByteArray),(⟨#[99,97,115,99,97,100,101]⟩:ByteArray),(⟨#[115,101,116,110,117,108,108]⟩:ByteArray)])=ap x4 [(⟨#[114,101,102]⟩:ByteArray),q5,wordW q6 [(⟨#[114,101,115,116,114,105,99,116]⟩:ByteArray),(⟨#[99,97,115,99,97,100,101]⟩:ByteArray),(⟨#[115,101,116,110,117,108,108]⟩:ByteArray)]]:=bytes_ext (by simp [ap,catL])
      rw [e3]
  · intro x
    have d1:decide ((c.length:Int)<(c.length:Int))=false:=by simp
    simp only [d1,cond_false]
  · intro hsz
    have hc2:18909*c.length≤18909*400:=Nat.mul_le_mul_left _ hc
    generalize hx1:ap (ap (⟨#[116,97,98,108,101]⟩:ByteArray) [n,(⟨#[40]⟩:ByteArray)]) (seqW (commaW colW) false c)=x1 at hsz
    simp only []
    have y1:((⟨#[32,41]⟩:ByteArray)).size=2:=rfl
    rw [fits (by omega)]
    simp only [cond_true]
    have e2:x1++(⟨#[32,41]⟩:ByteArray)=ap x1 [(⟨#[41]⟩:ByteArray)]:=rfl
    rw [e2]
    have a2:(ap x1 [(⟨#[41]⟩:ByteArray)]).size≤8000000:=by rw [ap_size,catL_one];have:((⟨#[41]⟩:ByteArray)).size=1:=rfl;omega
    have key:=fun h1 h2=>(cat_loop (α:=List tNodeT) (R:=ByteArray×Unit) (body:=(fun (x3,x6,_)=>
  (bif (decide (x6<(k.length:Int))) then
  bif (decide (0≤x6)&&decide (x6<(k.length:Int))) then
  let e25:(List tNodeT):=(List.getD k (Int.toNat x6) [])
  Option.bind (R07_exprText.F (e25,())) fun y26=>
  bif (!decide ((((⟨#[32,99,104,101,99,107]⟩:ByteArray).size+y26.1.size:Nat):Int)>IntKind.i64.max)) then
  let e27:ByteArray:=((⟨#[32,99,104,101,99,107]⟩:ByteArray)++y26.1)
  bif (!decide (((x3.size+e27.size:Nat):Int)>IntKind.i64.max)) then
  let e28:ByteArray:=(x3++e27)
  let e29:Int:=(IntKind.i64.wrap (x6+(1:Int)))
  some (.inl (e28,e29,()))
  else none
  else none
  else none
  else
  some (.inr (x3,()))))) k hk (fun _ e => rCheckW e) 300010 8000000 (by decide) (fun b e hm => by
      have:=(rExprText_s e (he e hm)).2
      unfold rCheckW
      rw [catL_cons]
      simp only [List.length_append,List.length_cons,List.length_nil]
      omega) (fun x=>(x,())) h1 h2 (ap x1 [(⟨#[41]⟩:ByteArray)]) a2).1
    refine (key ?_ ?_).trans ?_
    · intro j hj x hx
      have d1:decide ((j:Int)<(k.length:Int))=true:=by simp;omega
      have d0:decide (0≤(j:Int))=true:=by simp
      have hm:=List.getElem_mem hj
      obtain ⟨r1,r2⟩:=rExprText_s _ (he _ hm)
      have hj2:300010*j≤300010*400:=Nat.mul_le_mul_left _ (by omega)
      have y6:((⟨#[32,99,104,101,99,107]⟩:ByteArray)).size=6:=rfl
      have y7:(bs (catL (rExprW k[j]))).size=(catL (rExprW k[j])).length:=bs_size _
      simp only [d1,d0,Bool.and_self,cond_true,Int.toNat_natCast,getD_at hj,r1,Option.bind_some,wrap_s hj (show k.length<9223372036854775808 by omega)]
      rw [fits (by omega)]
      simp only [cond_true]
      rw [fits (by rw [ByteArray.size_append];omega)]
      simp only [cond_true]
      have e3:x++((⟨#[32,99,104,101,99,107]⟩:ByteArray)++bs (catL (rExprW k[j])))=ap x (rCheckW k[j]):=by
        have h:(⟨#[32,99,104,101,99,107]⟩:ByteArray)++bs (catL (rExprW k[j]))=bs (catL (rCheckW k[j])):=bytes_ext (by unfold rCheckW;simp [catL_cons])
        rw [h]
        rfl
      rw [e3]
    · intro x
      have d1:decide ((k.length:Int)<(k.length:Int))=false:=by simp
      simp only [d1,cond_false]
    · rw [seqW_flat,←hx1]
      simp only [ap_ap]
      unfold rTableW
      have:seqW (commaW colW) false c=sepW colW false c:=seqW_sep colW c false
      rw [this]
end Go.Proofs.Ytniojllnooblcaa
end
section
namespace Go.Proofs.Ytniojllnooblcaa
open Go Lv Go.Proofs Go.RowKit Go.Shelf Dl
/-- the words behind "view" -/
def rViewW (v:Dl.View):List ByteArray:=[v.1,(⟨#[102,114,111,109]⟩:ByteArray),v.2.1]++(if v.2.2.1=e0 then [] else [(⟨#[106,111,105,110]⟩:ByteArray),v.2.2.1,(⟨#[111,110]⟩:ByteArray),bs (Lib.itoa v.2.2.2.1.1),(⟨#[61]⟩:ByteArray),bs (Lib.itoa v.2.2.2.1.2)])++
  (if v.2.2.2.2.1=[] then [] else (⟨#[119,104,101,114,101]⟩:ByteArray)::rExprW v.2.2.2.2.1)++ [(⟨#[112,105,99,107]⟩:ByteArray)]++sepW pickW false v.2.2.2.2.2.1++(if v.2.2.2.2.2.2.1 then [(⟨#[103,114,111,117,112]⟩:ByteArray)] else [])++sepW aggW false v.2.2.2.2.2.2.2
theorem itoa_sz {n:Int} (h:I64 n):(bs (Lib.itoa n)).size≤21:=by rw [bs_size];exact itoa_len h
theorem pickW_wb {n:Int} (h:I64 n):WB (pickW n):=.cons (by have:=itoa_sz h;omega) .nil
theorem aggW_wb {a:Dl.Agg} (h:I64 a.2):WB (aggW a):=by
  have h1:(wordW a.1 fns).size≤30:=wordW_size (by decide)
  have h2:=itoa_sz h
  exact .cons (by omega) (.ite .nil (.cons (by omega) .nil))
theorem gt0L {α:Type} (l:List α):decide ((l.length:Int)>(0:Int))= !decide (l=[]):=by
  cases l with
  |nil=>rfl
  |cons a l=>
    have:decide ((((a::l).length:Nat):Int)>(0:Int))=true:=by rw [decide_eq_true_eq];simp only [List.length_cons];omega
    rw [this];rfl
theorem rViewText_s (vn vf vw : ByteArray) (o1 o2 : Int) (wh : List tNodeT) (pk : List Int) (gr : Bool) (ag : List Dl.Agg) (n1 : vn.size ≤ 100) (n2 : vf.size ≤ 100) (n3 : vw.size ≤ 100)
    (h1:I64 o1) (h2:I64 o2) (hw:EF2 wh) (hp:pk.length≤400) (hpi:∀n∈pk,I64 n) (ha:ag.length≤400) (hai:∀a∈ag,I64 a.2):
    R07_viewText.F (vn,vf,vw,o1,o2,wh,pk,gr,ag,())=some (ap (⟨#[118,105,101,119]⟩:ByteArray) (rViewW (vn,(vf,(vw,((o1,o2),(wh,(pk,(gr,ag)))))))),()):=by
  rw [R07_viewText.eq]
  unfold R07_viewText.B
  simp only []
  have z1:((⟨#[118,105,101,119,32]⟩:ByteArray)).size=5:=rfl
  have z2:((⟨#[32,102,114,111,109,32]⟩:ByteArray)).size=6:=rfl
  have u1:((⟨#[118,105,101,119,32]⟩:ByteArray)++vn).size=5+vn.size:=by rw [ByteArray.size_append];rfl
  have u2:((⟨#[118,105,101,119,32]⟩:ByteArray)++vn++(⟨#[32,102,114,111,109,32]⟩:ByteArray)).size=11+vn.size:=by rw [ByteArray.size_append,u1];omega
  rw [fits (by omega)]
  simp only [cond_true]
  rw [fits (by omega)]
  simp only [cond_true]
  rw [fits (by omega)]
  simp only [cond_true]
  have e1:(⟨#[118,105,101,119,32]⟩:ByteArray)++vn++(⟨#[32,102,114,111,109,32]⟩:ByteArray)++vf=ap (⟨#[118,105,101,119]⟩:ByteArray) [vn,(⟨#[102,114,111,109]⟩:ByteArray),vf]:=bytes_ext (by simp [ap,catL])
  have s1:(ap (⟨#[118,105,101,119]⟩:ByteArray) [vn,(⟨#[102,114,111,109]⟩:ByteArray),vf]).size≤300:=by rw [←e1,ByteArray.size_append];omega
  rw [e1]
  generalize hx1:ap (⟨#[118,105,101,119]⟩:ByteArray) [vn,(⟨#[102,114,111,109]⟩:ByteArray),vf]=x1 at s1
  refine (bind_is (.inl (ap x1 (if vw=e0 then [] else [(⟨#[106,111,105,110]⟩:ByteArray),vw,(⟨#[111,110]⟩:ByteArray),bs (Lib.itoa o1),(⟨#[61]⟩:ByteArray),bs (Lib.itoa o2)]),())) ?_).trans ?_
  · simp only [beq_bytes,signed_s o1 h1,signed_s o2 h2,Option.bind_some]
    have b1:=itoa_sz h1
    have b2:=itoa_sz h2
    generalize bs (Lib.itoa o1)=t1 at b1
    generalize bs (Lib.itoa o2)=t2 at b2
    by_cases h5:vw=e0
    · rw [decide_eq_true h5,if_pos h5,ap_nil];rfl
    · rw [decide_eq_false h5,if_neg h5]
      simp only [Bool.not_false,cond_true]
      have y1:((⟨#[32,106,111,105,110,32]⟩:ByteArray)).size=6:=rfl
      have y2:((⟨#[32,111,110,32]⟩:ByteArray)).size=4:=rfl
      have y3:((⟨#[32,61,32]⟩:ByteArray)).size=3:=rfl
      have a1:((⟨#[32,106,111,105,110,32]⟩:ByteArray)++vw).size=6+vw.size:=by rw [ByteArray.size_append];rfl
      have a2:((⟨#[32,106,111,105,110,32]⟩:ByteArray)++vw++(⟨#[32,111,110,32]⟩:ByteArray)).size=10+vw.size:=by rw [ByteArray.size_append,a1];omega
      have a3:((⟨#[32,106,111,105,110,32]⟩:ByteArray)++vw++(⟨#[32,111,110,32]⟩:ByteArray)++t1).size=10+vw.size+t1.size:=by rw [ByteArray.size_append,a2]
      have a4:((⟨#[32,106,111,105,110,32]⟩:ByteArray)++vw++(⟨#[32,111,110,32]⟩:ByteArray)++t1++(⟨#[32,61,32]⟩:ByteArray)).size=13+vw.size+t1.size:=by rw [ByteArray.size_append,a3];omega
      have a5:((⟨#[32,106,111,105,110,32]⟩:ByteArray)++vw++(⟨#[32,111,110,32]⟩:ByteArray)++t1++(⟨#[32,61,32]⟩:ByteArray)++t2).size=13+vw.size+t1.size+t2.size:=by rw [ByteArray.size_append,a4]
      have dd:(decide (0≤(0:Int))&&decide ((0:Int)<(2:Int)))=true:=rfl
      have de:(decide (0≤(1:Int))&&decide ((1:Int)<(2:Int)))=true:=rfl
      rw [fits (by omega)]
      simp only [cond_true]
      rw [fits (by omega)]
      simp only [cond_true,dd]
      rw [fits (by omega)]
      simp only [cond_true]
      rw [fits (by omega)]
      simp only [cond_true,de]
      rw [fits (by omega)]
      simp only [cond_true]
      rw [fits (by omega)]
      simp only [cond_true]
      have e3:x1++((⟨#[32,106,111,105,110,32]⟩:ByteArray)++vw++(⟨#[32,111,110,32]⟩:ByteArray)++t1++(⟨#[32,61,32]⟩:ByteArray)++t2)=ap x1 [(⟨#[106,111,105,110]⟩:ByteArray),vw,(⟨#[111,110]⟩:ByteArray),t1,(⟨#[61]⟩:ByteArray),t2]:=bytes_ext (by simp [ap,catL])
      rw [e3]
  have s2:(ap x1 (if vw=e0 then [] else [(⟨#[106,111,105,110]⟩:ByteArray),vw,(⟨#[111,110]⟩:ByteArray),bs (Lib.itoa o1),(⟨#[61]⟩:ByteArray),bs (Lib.itoa o2)])).size≤20000:=by
    rw [ap_size]
    have b1:=itoa_sz h1
    have b2:=itoa_sz h2
    have hwb:WB (if vw=e0 then [] else [(⟨#[106,111,105,110]⟩:ByteArray),vw,(⟨#[111,110]⟩:ByteArray),bs (Lib.itoa o1),(⟨#[61]⟩:ByteArray),bs (Lib.itoa o2)]):=.ite .nil (.cons (by decide) (.cons (by omega) (.cons (by decide) (.cons (by omega) (.cons (by decide) (.cons (by omega) .nil))))))
    have:=catL_le _ hwb
    have hl:(if vw=e0 then [] else [(⟨#[106,111,105,110]⟩:ByteArray),vw,(⟨#[111,110]⟩:ByteArray),bs (Lib.itoa o1),(⟨#[61]⟩:ByteArray),bs (Lib.itoa o2)]).length≤6:=by split<;>simp
    omega
  generalize hx2:ap x1 (if vw=e0 then [] else [(⟨#[106,111,105,110]⟩:ByteArray),vw,(⟨#[111,110]⟩:ByteArray),bs (Lib.itoa o1),(⟨#[61]⟩:ByteArray),bs (Lib.itoa o2)])=x2 at s2
  simp only []
  obtain ⟨q1,q2⟩:=rExprText_s wh hw
  refine (bind_is (.inl (ap x2 (if wh=[] then [] else (⟨#[119,104,101,114,101]⟩:ByteArray)::rExprW wh),())) ?_).trans ?_
  · rw [gt0L]
    by_cases h6:wh=[]
    · rw [decide_eq_true h6,if_pos h6,ap_nil];rfl
    · rw [decide_eq_false h6,if_neg h6]
      simp only [Bool.not_false,cond_true,q1,Option.bind_some]
      have y6:((⟨#[32,119,104,101,114,101]⟩:ByteArray)).size=6:=rfl
      have y7:(bs (catL (rExprW wh))).size=(catL (rExprW wh)).length:=bs_size _
      rw [fits (by omega)]
      simp only [cond_true]
      rw [fits (by rw [ByteArray.size_append];omega)]
      simp only [cond_true]
      have e3:x2++((⟨#[32,119,104,101,114,101]⟩:ByteArray)++bs (catL (rExprW wh)))=ap x2 ((⟨#[119,104,101,114,101]⟩:ByteArray)::rExprW wh):=by
        have h:(⟨#[32,119,104,101,114,101]⟩:ByteArray)++bs (catL (rExprW wh))=bs (catL ((⟨#[119,104,101,114,101]⟩:ByteArray)::rExprW wh)):=bytes_ext (by simp [catL_cons])
        rw [h]
        rfl
      rw [e3]
  have s3:(ap x2 (if wh=[] then [] else (⟨#[119,104,101,114,101]⟩:ByteArray)::rExprW wh)).size≤400000:=by
    rw [ap_size]
    by_cases h6:wh=[]
    · rw [if_pos h6,catL_nil];simp only [List.length_nil];omega
    · rw [if_neg h6,catL_cons]
      simp only [List.length_append,List.length_cons,List.length_nil];omega
  generalize hx3:ap x2 (if wh=[] then [] else (⟨#[119,104,101,114,101]⟩:ByteArray)::rExprW wh)=x3 at s3
  simp only []
  have y8:((⟨#[32,112,105,99,107]⟩:ByteArray)).size=5:=rfl
  rw [fits (by omega)]
  simp only [cond_true]
  have e4:x3++(⟨#[32,112,105,99,107]⟩:ByteArray)=ap x3 [(⟨#[112,105,99,107]⟩:ByteArray)]:=rfl
  rw [e4]
  have s4:(ap x3 [(⟨#[112,105,99,107]⟩:ByteArray)]).size≤400100:=by rw [ap_size,catL_one];have:((⟨#[112,105,99,107]⟩:ByteArray)).size=4:=rfl;omega
  refine cat_loop_b (α:=Int) pk hp (commaW pickW) 18909 400100 (by decide) (fun b x hx=>commaW_cat (pickW_wb (hpi x hx)) (by unfold pickW;simp)) (fun x=> .inl (x,()))
    (ap x3 [(⟨#[112,105,99,107]⟩:ByteArray)]) s4 ?_ ?_ ?_
  · intro j hj x hx
    have d1:decide ((j:Int)<(pk.length:Int))=true:=by simp;omega
    have d0:decide (0≤(j:Int))=true:=by simp
    have hm:=List.getElem_mem hj
    have m1:=hpi _ hm
    have hj2:18909*j≤18909*400:=Nat.mul_le_mul_left _ (by omega)
    have b1:=itoa_sz m1
    have yz:((⟨#[32]⟩:ByteArray)).size=1:=rfl
    have yc:((⟨#[32,44]⟩:ByteArray)).size=2:=rfl
    simp only [d1,d0,Bool.and_self,cond_true,Int.toNat_natCast,getD_at hj,wrap_s hj (show pk.length<9223372036854775808 by omega),gt0,signed_s _ m1,Option.bind_some]
    have hc:commaW pickW (decide (0<j)) pk[j]=(if decide (0<j) then [(⟨#[44]⟩:ByteArray)] else [])++ [bs (Lib.itoa pk[j])]:=rfl
    rw [hc]
    generalize bs (Lib.itoa pk[j])=t at b1
    cases decide (0<j) with
    |true=>
      simp only [cond_true,if_true]
      rw [fits (by omega)]
      simp only [cond_true]
      rw [fits (by omega)]
      simp only [cond_true]
      rw [fits (by rw [ByteArray.size_append,ByteArray.size_append];omega)]
      simp only [cond_true]
      have e3:x++(⟨#[32,44]⟩:ByteArray)++((⟨#[32]⟩:ByteArray)++t)=ap x ([(⟨#[44]⟩:ByteArray)]++ [t]):=bytes_ext (by simp [ap,catL])
      rw [e3]
    |false=>
      simp only [cond_false,Bool.false_eq_true,if_false,List.nil_append]
      rw [fits (by omega)]
      simp only [cond_true]
      rw [fits (by rw [ByteArray.size_append];omega)]
      simp only [cond_true]
      have e3:x++((⟨#[32]⟩:ByteArray)++t)=ap x [t]:=bytes_ext (by simp [ap,catL])
      rw [e3]
  · intro x
    have d1:decide ((pk.length:Int)<(pk.length:Int))=false:=by simp
    simp only [d1,cond_false]
  intro hsz
  have hc2:18909*pk.length≤18909*400:=Nat.mul_le_mul_left _ hp
  generalize hx4:ap (ap x3 [(⟨#[112,105,99,107]⟩:ByteArray)]) (seqW (commaW pickW) false pk)=x4 at hsz
  simp only []
  have y9:((⟨#[32,103,114,111,117,112]⟩:ByteArray)).size=6:=rfl
  refine (bind_is (.inl (ap x4 (if gr then [(⟨#[103,114,111,117,112]⟩:ByteArray)] else []),())) (opt_add _ x4 (⟨#[32,103,114,111,117,112]⟩:ByteArray) [(⟨#[103,114,111,117,112]⟩:ByteArray)] rfl (by omega))).trans ?_
  have a5:(ap x4 (if gr then [(⟨#[103,114,111,117,112]⟩:ByteArray)] else [])).size≤9000000:=by
    rw [ap_size]
    have:(catL (if gr then [(⟨#[103,114,111,117,112]⟩:ByteArray)] else [])).length≤10:=by split<;>decide
    omega
  generalize hx5:ap x4 (if gr then [(⟨#[103,114,111,117,112]⟩:ByteArray)] else [])=x5 at a5
  simp only []
  have key:=fun h1 h2=>(cat_loop (α:=Dl.Agg) (R:=ByteArray×Unit) (body:=(fun (x3,x5,_)=>
  (bif (decide (x5<(ag.length:Int))) then
  Option.bind (
  (bif (decide (x5>(0:Int))) then
  bif (!decide (((x3.size+(⟨#[32,44]⟩:ByteArray).size:Nat):Int)>IntKind.i64.max)) then
  let e32:ByteArray:=(x3++(⟨#[32,44]⟩:ByteArray))
  some (.inl (e32,()))
  else none
  else
  some (.inl (x3,()))):Option ((ByteArray×Unit)⊕((ByteArray×Int×Unit)⊕(ByteArray×Unit)))) fun r33=>match r33 with
  | .inl (x3_33,_)=>
  (bif (decide (0≤x5)&&decide (x5<(ag.length:Int))) then
  let e34:tAggT:=(List.getD ag (Int.toNat x5) tAgg.z)
  Option.bind (R07_pick.F (e34.1,[(⟨#[99,111,117,110,116]⟩:ByteArray),(⟨#[115,117,109]⟩:ByteArray),(⟨#[109,105,110]⟩:ByteArray),(⟨#[109,97,120]⟩:ByteArray)],())) fun y35=>
  bif (!decide ((((⟨#[32]⟩:ByteArray).size+y35.1.size:Nat):Int)>IntKind.i64.max)) then
  let e36:ByteArray:=((⟨#[32]⟩:ByteArray)++y35.1)
  bif (!decide (((x3_33.size+e36.size:Nat):Int)>IntKind.i64.max)) then
  let e37:ByteArray:=(x3_33++e36)
  bif (decide (0≤x5)&&decide (x5<(ag.length:Int))) then
  let e38:tAggT:=(List.getD ag (Int.toNat x5) tAgg.z)
  (bif (e38.1 !=(0:Int)) then
  bif (decide (0≤x5)&&decide (x5<(ag.length:Int))) then
  let e39:tAggT:=(List.getD ag (Int.toNat x5) tAgg.z)
  Option.bind (R01_Signed.F (e39.2,())) fun y40=>
  bif (!decide ((((⟨#[32]⟩:ByteArray).size+y40.1.size:Nat):Int)>IntKind.i64.max)) then
  let e41:ByteArray:=((⟨#[32]⟩:ByteArray)++y40.1)
  bif (!decide (((e37.size+e41.size:Nat):Int)>IntKind.i64.max)) then
  let e42:ByteArray:=(e37++e41)
  let e43:Int:=(IntKind.i64.wrap (x5+(1:Int)))
  some (.inl (e42,e43,()))
  else none
  else none
  else none
  else
  let e44:Int:=(IntKind.i64.wrap (x5+(1:Int)))
  some (.inl (e37,e44,())))
  else none
  else none
  else none
  else none)
  | .inr r=>some r
  else
  some (.inr (x3,()))))) ag ha (commaW aggW) 18909 9000000 (by decide) (fun b x hx=>commaW_cat (aggW_wb (hai x hx)) (aggW_len x)) (fun x=>(x,())) h1 h2 x5 a5).1
  refine (Eq.trans ?_ (key ?_ ?_)).trans ?_
  · kernel_rfl
  · intro j hj x hx
    have d1:decide ((j:Int)<(ag.length:Int))=true:=by simp;omega
    have d0:decide (0≤(j:Int))=true:=by simp
    have hm:=List.getElem_mem hj
    have m1:=hai _ hm
    have hj2:18909*j≤18909*400:=Nat.mul_le_mul_left _ (by omega)
    simp only [d1,d0,Bool.and_self,cond_true,Int.toNat_natCast,getD_at hj,wrap_s hj (show ag.length<9223372036854775808 by omega),gt0]
    generalize ag[j]=q at m1
    obtain ⟨f,cl⟩:=q
    simp only at m1 ⊢
    have b1:=itoa_sz m1
    have yz:((⟨#[32]⟩:ByteArray)).size=1:=rfl
    have yc:((⟨#[32,44]⟩:ByteArray)).size=2:=rfl
    refine (bind_is (.inl (ap x (if decide (0<j) then [(⟨#[44]⟩:ByteArray)] else []),())) (opt_add _ x (⟨#[32,44]⟩:ByteArray) [(⟨#[44]⟩:ByteArray)] rfl (by omega))).trans ?_
    have g1:(ap x (if decide (0<j) then [(⟨#[44]⟩:ByteArray)] else [])).size≤x.size+10:=by
      rw [ap_size]
      have:(catL (if decide (0<j) then [(⟨#[44]⟩:ByteArray)] else [])).length≤10:=by split<;>decide
      omega
    have w1:(wordW f [(⟨#[99,111,117,110,116]⟩:ByteArray),(⟨#[115,117,109]⟩:ByteArray),(⟨#[109,105,110]⟩:ByteArray),(⟨#[109,97,120]⟩:ByteArray)]).size≤30:=wordW_size (by decide)
    have hc:commaW aggW (decide (0<j)) (f,cl)=(if decide (0<j) then [(⟨#[44]⟩:ByteArray)] else [])++(wordW f [(⟨#[99,111,117,110,116]⟩:ByteArray),(⟨#[115,117,109]⟩:ByteArray),(⟨#[109,105,110]⟩:ByteArray),(⟨#[109,97,120]⟩:ByteArray)]::(if f=0 then [] else [bs (Lib.itoa cl)])):=rfl
    rw [hc,←ap_ap]
    generalize ap x (if decide (0<j) then [(⟨#[44]⟩:ByteArray)] else [])=y at g1
    simp only [rPick_w,Option.bind_some,signed_s _ m1,i_ne]
    generalize wordW f [(⟨#[99,111,117,110,116]⟩:ByteArray),(⟨#[115,117,109]⟩:ByteArray),(⟨#[109,105,110]⟩:ByteArray),(⟨#[109,97,120]⟩:ByteArray)]=t1 at w1
    generalize bs (Lib.itoa cl)=t2 at b1
    rw [fits (by omega)]
    simp only [cond_true]
    rw [fits (by rw [ByteArray.size_append];omega)]
    simp only [cond_true]
    have v1:(y++((⟨#[32]⟩:ByteArray)++t1)).size≤y.size+31:=by rw [ByteArray.size_append,ByteArray.size_append];omega
    by_cases h0:f=0
    · simp only [h0,decide_true,Bool.not_true,cond_false,if_true]
      have e3:y++((⟨#[32]⟩:ByteArray)++t1)=ap y [t1]:=bytes_ext (by simp [ap,catL])
      rw [e3]
    · simp only [h0,decide_false,Bool.not_false,cond_true,if_false]
      rw [fits (by omega)]
      simp only [cond_true]
      rw [fits (by have : ((⟨#[32]⟩ : ByteArray) ++ t2).size = 1 + t2.size := ByteArray.size_append
                   omega)]
      simp only [cond_true]
      have e3:y++((⟨#[32]⟩:ByteArray)++t1)++((⟨#[32]⟩:ByteArray)++t2)=ap y [t1,t2]:=bytes_ext (by simp [ap,catL])
      rw [e3]
  · intro x
    have d1:decide ((ag.length:Int)<(ag.length:Int))=false:=by simp
    simp only [d1,cond_false]
  · rw [←hx5,←hx4,←hx3,←hx2,←hx1]
    simp only [ap_ap]
    unfold rViewW
    have t1:seqW (commaW pickW) false pk=sepW pickW false pk:=seqW_sep pickW pk false
    have t2:seqW (commaW aggW) false ag=sepW aggW false ag:=seqW_sep aggW ag false
    rw [t1,t2]
end Go.Proofs.Ytniojllnooblcaa
end
section
namespace Go.Proofs.Ytniojllnooblcaa
open Go Lv Go.Proofs Go.RowKit Go.Shelf Dl
def rTextD (d:Dl.Def):List UInt8:=if d.1=0 then (ap (⟨#[116,97,98,108,101]⟩:ByteArray) (rTableW d.2.1)).data.toList else (ap (⟨#[118,105,101,119]⟩:ByteArray) (rViewW d.2.2)).data.toList
open Classical in
noncomputable def rPrintS (d:Dl.Def):List UInt8:=if 20000<(rTextD d).length then [] else if readS (rTextD d)=(d,0) then rTextD d else []
theorem ef2_of {e:List tNodeT} (h:EFit e) (hb:big3 e=false):EF2 e:=by
  refine ⟨h,fun x hx=>?_⟩
  simp only [big3,Bool.or_eq_false_iff,List.any_eq_false,decide_eq_true_eq] at hb
  have:=hb.1 x hx
  omega
theorem rPrint_s (k : Int) (tn : ByteArray) (c : List Col) (ck : List (List tNodeT)) (vn vf vw : ByteArray) (o1 o2 : Int) (wh : List tNodeT) (pk : List Int) (gr : Bool) (ag : List Agg)
    (h:Fit (k,((tn,(c,ck)),(vn,(vf,(vw,((o1,o2),(wh,(pk,(gr,ag)))))))))) (hs:Sm (k,((tn,(c,ck)),(vn,(vf,(vw,((o1,o2),(wh,(pk,(gr,ag)))))))))):
    R07_Print.F (k,tn,c,ck,vn,vf,vw,o1,o2,wh,pk,gr,ag,())=some (bs (rPrintS (k,((tn,(c,ck)),(vn,(vf,(vw,((o1,o2),(wh,(pk,(gr,ag)))))))))),()):=by
  have hln:=h.ln
  rw [R07_Print.eq]
  unfold R07_Print.B
  simp only []
  rw [rViewText_s vn vf vw o1 o2 wh pk gr ag h.n2 h.n3 h.n4 h.o1 h.o2 (ef2_of h.whr hs.whr) h.pick h.pk h.aggs h.ag]
  simp only [Option.bind_some]
  generalize hd:((k,((tn,(c,ck)),(vn,(vf,(vw,((o1,o2),(wh,(pk,(gr,ag))))))))):Dl.Def)=d at hln h hs
  refine (bind_is (.inl (bs (rTextD d),())) ?_).trans ?_
  · subst hd
    unfold rTextD
    simp only [b_eq]
    by_cases h0:k=0
    · rw [decide_eq_true h0,if_pos h0]
      simp only [cond_true]
      rw [rTableText_s tn c ck h.n1 h.cols h.checks hs.names (fun e he=>ef2_of (h.each e he) (hs.each e he))]
      simp only [Option.bind_some,bs_data]
    · rw [decide_eq_false h0,if_neg h0]
      simp only [cond_false,bs_data]
  simp only [bs_size]
  unfold rPrintS
  by_cases hb:20000<(rTextD d).length
  · have:decide (((rTextD d).length:Int)>(20000:Int))=true:=by simp;omega
    rw [this,if_pos hb]
    rfl
  · have:decide (((rTextD d).length:Int)>(20000:Int))=false:=by simp;omega
    rw [this,if_neg hb]
    simp only [cond_false,rParse_s,bs_list,Option.bind_some]
    generalize hr:readS (rTextD d)=r
    obtain ⟨q,e⟩:=r
    obtain ⟨q1,⟨q2,q3,q4⟩,q5,q6,q7,⟨q8,q8'⟩,q9,q10,q11,q12⟩:=q
    simp only [flatP]
    by_cases he:e=0
    · subst he
      have:((0:Int) !=(0:Int))=false:=by decide
      simp only [this,cond_false]
      have hsm:=rSame_s k tn c ck vn vf vw o1 o2 wh pk gr ag q1 q2 q3 q4 q5 q6 q7 q8 q8' q9 q10 q11 q12 (hd▸hln)
      rw [hsm,hd]
      simp only [Option.bind_some]
      by_cases hq:d=(q1,((q2,(q3,q4)),(q5,(q6,(q7,((q8,q8'),(q9,(q10,(q11,q12)))))))))
      · rw [(sameB_iff _ _).2 hq,←hq,if_pos rfl]
        rfl
      · have:sameB d (q1,((q2,(q3,q4)),(q5,(q6,(q7,((q8,q8'),(q9,(q10,(q11,q12)))))))))=false:=by
          cases hs:sameB d (q1,((q2,(q3,q4)),(q5,(q6,(q7,((q8,q8'),(q9,(q10,(q11,q12))))))))) with
          |false=>rfl
          |true=>exact absurd ((sameB_iff _ _).1 hs) hq
        rw [this,if_neg (fun e=>hq (Prod.mk.inj e).1.symm)]
        rfl
    · have:(e !=(0:Int))=true:=by simp [he]
      simp only [this,cond_true]
      rw [if_neg (fun e'=>he (Prod.mk.inj e').2)]
end Go.Proofs.Ytniojllnooblcaa
end
end
section
set_option maxRecDepth 100000
namespace Go.Proofs.Ytniojllnooblcaa
open Go Lv Go.Proofs Go.RowKit Go.Shelf Dl
theorem bindE {α:Type} {x:Option α} {K:α→Option (Bool×Unit)} {P:Bool→Prop} {Q:α→Prop} (h:∃r,x=some r∧Q r) (h':∀r,Q r→∃b,K r=some (b,())∧P b):∃b,Option.bind x K=some (b,())∧P b:=by
  obtain ⟨r,h1,h2⟩:=h
  rw [h1];exact h' r h2
theorem bindE' {α:Type} {x:Option α} {K:α→Option (Bool×Unit)} {Q:α→Prop} (h:∃r,x=some r∧Q r) (h':∀r,Q r→∃b,K r=some (b,())):∃b,Option.bind x K=some (b,()):=by
  obtain ⟨r,h1,h2⟩:=h
  rw [h1];exact h' r h2
theorem rbig_z (l : List Dl.Def) (hl : Ln l) (hD : ∀ d ∈ l,DLn d) (hF : ∀ d ∈ l,Sm d → Fit d) : ∃ b,R09_Big.F (l,()) = some (b,()) ∧ (b = false → ∀ d ∈ l,Sm d) := by
  rw [R09_Big.eq]
  unfold R09_Big.B
  have hl0:l.length<1000000000000000:=hl
  refine bindE (Q:=fun (r:(Int×Unit)⊕(Bool×Unit))=>r=.inr (true,())∨((∃n,r=.inl (n,()))∧∀d∈l,Sm d)) (loop_m (fun x=>l.length-x.2.1.toNat) (fun x=>∃(i:Nat) (n:Int),x=(n,(i:Int),())∧i≤l.length∧∀(j:Nat) (hj:j<l.length),j<i→Sm l[j]) (fun _ (r:(Int×Unit)⊕(Bool×Unit))=>r=.inr (true,())∨((∃n,r=.inl (n,()))∧∀d∈l,Sm d)) ?_ _ ⟨0,0,rfl,by omega,fun j hj h=>by omega⟩) ?_
  · rintro _ ⟨i,n,rfl,hi,hsm⟩
    by_cases hlt:i<l.length
    · have d1:decide ((i:Int)<(l.length:Int))=true:=by simp;omega
      have d0:decide (0≤(i:Int))=true:=by simp
      have gi:l.getD i tDef.z=l[i]:=getD_at hlt _
      have hm:l[i]∈l:=List.getElem_mem hlt
      obtain ⟨b,hb1,hb2⟩:=big_s l[i].1 l[i].2.1.1 l[i].2.1.2.1 l[i].2.1.2.2 l[i].2.2.1 l[i].2.2.2.1 l[i].2.2.2.2.1 l[i].2.2.2.2.2.1.1 l[i].2.2.2.2.2.1.2 l[i].2.2.2.2.2.2.1 l[i].2.2.2.2.2.2.2.1 l[i].2.2.2.2.2.2.2.2.1 l[i].2.2.2.2.2.2.2.2.2 (hD _ hm)
      simp only [d1,d0,Bool.and_self,cond_true,Int.toNat_natCast,gi,hb1,Option.bind_some]
      cases b with
      |true=>exact .inr ⟨_,rfl,.inl rfl⟩
      |false=>
        have hS:Sm l[i]:=hb2 rfl
        have hP:=rPrint_s l[i].1 l[i].2.1.1 l[i].2.1.2.1 l[i].2.1.2.2 l[i].2.2.1 l[i].2.2.2.1 l[i].2.2.2.2.1 l[i].2.2.2.2.2.1.1 l[i].2.2.2.2.2.1.2 l[i].2.2.2.2.2.2.1 l[i].2.2.2.2.2.2.2.1 l[i].2.2.2.2.2.2.2.2.1 l[i].2.2.2.2.2.2.2.2.2 (hF _ hm hS) hS
        simp only [cond_false,hP,Option.bind_some]
        generalize decide (_>(2000:Int))=q
        cases q with
        |true=>exact .inr ⟨_,rfl,.inl rfl⟩
        |false=>
          refine .inl ⟨_,rfl,⟨i+1,_,by rw [wrap_s hlt (by omega)],by omega,fun j hj h=>?_⟩,by show l.length-Int.toNat (IntKind.i64.wrap _)<_;rw [wrap_s hlt (by omega),Int.toNat_natCast];omega,fun _ h=>h⟩
          by_cases hji:j<i
          · exact hsm j hj hji
          · have:j=i:=by omega
            subst this;exact hS
    · have d1:decide ((i:Int)<(l.length:Int))=false:=by simp;omega
      refine .inr ⟨.inl (n,()),?_,.inr ⟨⟨n,rfl⟩,fun d hd=>?_⟩⟩
      · simp only [d1,cond_false]
      · obtain ⟨j,hj,rfl⟩:=List.getElem_of_mem hd
        exact hsm j hj (by omega)
  · rintro r (rfl|⟨⟨n,rfl⟩,hS⟩)
    · exact ⟨true,rfl,fun h=>by cases h⟩
    · have hj:∃b,Option.bind (loopM (S:=Int×Int×Unit) (fun (x5,x6,_)=>
          (bif (decide (x6<(l.length:Int))) then
          bif (decide (0≤x6)&&decide (x6<(l.length:Int))) then
          let e12:tDefT:=(List.getD l (Int.toNat x6) tDef.z)
          (bif (!(e12.2.2.2.2.1.toList==(⟨#[]⟩:ByteArray).toList)) then
          let e13:Int:=(IntKind.i64.wrap (x5+(1:Int)))
          let e14:Int:=(IntKind.i64.wrap (x6+(1:Int)))
          some (.inl (e13,e14,()))
          else
          let e15:Int:=(IntKind.i64.wrap (x6+(1:Int)))
          some (.inl (x5,e15,())))
          else none
          else
          some (.inr (.inl (x5,()))))) ((0:Int),(0:Int),()):Option ((Int×Unit)⊕(Bool×Unit))) (fun r16=>match r16 with
          | .inl (x5_16,_)=>
          ((bif (decide ((l.length:Int)>(22:Int))) then
          some (true,())
          else
          (bif (decide (n>(200:Int))) then
          some (true,())
          else
          some ((decide (x5_16>(6:Int))),()))))
          | .inr r=>some r)=some (b,()):=by
        refine bindE' (Q:=fun (r:(Int×Unit)⊕(Bool×Unit))=>∃m,r=.inl (m,())) (loop_m (fun x=>l.length-x.2.1.toNat) (fun x=>∃(i:Nat) (n:Int),x=(n,(i:Int),())∧i≤l.length) (fun _ (r:(Int×Unit)⊕(Bool×Unit))=>∃m,r=.inl (m,())) ?_ _ ⟨0,0,rfl,by omega⟩) ?_
        · rintro _ ⟨i,n,rfl,hi⟩
          by_cases hlt:i<l.length
          · have d1:decide ((i:Int)<(l.length:Int))=true:=by simp;omega
            have d0:decide (0≤(i:Int))=true:=by simp
            simp only [d1,d0,Bool.and_self,cond_true,wrap_s hlt (show l.length<9223372036854775808 by omega)]
            generalize (!((List.getD l (Int.toNat (i:Int)) tDef.z).2.2.2.2.1.toList==(⟨#[]⟩:ByteArray).toList))=q
            cases q
            · exact .inl ⟨_,rfl,⟨i+1,_,rfl,by omega⟩,by show l.length-Int.toNat _<l.length-Int.toNat _;rw [Int.toNat_natCast,Int.toNat_natCast];omega,fun _ h=>h⟩
            · exact .inl ⟨_,rfl,⟨i+1,_,rfl,by omega⟩,by show l.length-Int.toNat _<l.length-Int.toNat _;rw [Int.toNat_natCast,Int.toNat_natCast];omega,fun _ h=>h⟩
          · have d1:decide ((i:Int)<(l.length:Int))=false:=by simp;omega
            refine .inr ⟨.inl (n,()),?_,n,rfl⟩
            simp only [d1,cond_false]
        · rintro r ⟨m,rfl⟩
          simp only []
          cases decide ((l.length:Int)>22)
          · cases decide (n>200)<;>exact ⟨_,rfl⟩
          · exact ⟨_,rfl⟩
      obtain ⟨b,hb⟩:=hj
      exact ⟨b,hb,fun _=>hS⟩
/--what a law's arguments are:a catalog -/
structure CatIn (l:List Dl.Def):Prop where
  ln:Ln l
  dln:∀d∈l,DLn d
  fit:∀d∈l,Sm d→Fit d
end Go.Proofs.Ytniojllnooblcaa
end
