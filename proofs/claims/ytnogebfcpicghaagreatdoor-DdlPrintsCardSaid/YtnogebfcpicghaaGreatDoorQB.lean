import Derived.Test.YtnogebfcpicghaaGreatDoorQA
set_option linter.all false
set_option linter.unusedVariables false
set_option linter.unusedSimpArgs false
set_option linter.unusedSectionVars false
set_option maxRecDepth 100000
namespace Go.Proofs.Ytnogebfcpicghaa
open Go Lv Go.Proofs Go.RowKit Go.Shelf
def ddl_parser_step.si : Sh := ⟨[(0,.v false [.ptr 0 0])],[(0,true,.box 70 [.sl 110 tTok])],[],1,[]⟩
def ddl_parser_step.so : Sh := ⟨[(0,.v true [.int .i64,.int .i64,.int .i64,.int .i64,.str])],[(0,true,.box 70 [.sl 110 tTok])],[],1001,[(0,0)]⟩
def ddl_parser_step.h : H := (.s none .n (.s none .n (.s none .n (.s none .n (.s none (.s (some ⟨[(4,.v false [.int .i64]),(5,.v false [.bool])],[],[2,3],0,[]⟩) .d .n) (.s none (.s (some ⟨[(6,.v false [.ptr 0 0]),(7,.v false [.bool])],[(0,false,.box 51 [.int .i64,.int .i64,.str])],[2,3],1,[]⟩) .d .n) .n))))))
noncomputable def ddl_parser_step.B : (List tTokT) × Unit → Option ((Int × Int × Int × Int × ByteArray × (List tTokT) × Unit) ⊕ Int) := fun (o0,_) =>
 Option.bind (ddl_parser_take.F ([(⟨#[110,117,108,108]⟩ : ByteArray),(⟨#[63]⟩ : ByteArray)],o0,())) fun y1 =>
 (bif y1.1 then
 some (.inl ((10 : Int),(0 : Int),(0 : Int),(0 : Int),(⟨#[]⟩ : ByteArray),y1.2.1,()))
 else
 Option.bind (ddl_parser_next.F (y1.2.1,())) fun zy2 => match zy2 with
 | .inl y2 =>
 ((bif (y2.1 == (1 : Int)) then
 some (.inl ((1 : Int),(0 : Int),y2.2.2.1,y2.2.2.2.1,y2.2.2.2.2.1,y2.2.2.2.2.2.1,()))
 else
 Option.bind (
 (fun z => agreeL [agreeL [agreeL [agreeL [z]]],agreeL [agreeL [agreeL [z]],agreeL [agreeL [z]]]]) (let e3 : Int := (Option.getD (getKV y2.2.1 (putKV (⟨#[110,111,116]⟩ : ByteArray) (9 : Int) (putKV (⟨#[111,114]⟩ : ByteArray) (8 : Int) (putKV (⟨#[97,110,100]⟩ : ByteArray) (7 : Int) (putKV (⟨#[60]⟩ : ByteArray) (6 : Int) (putKV (⟨#[61]⟩ : ByteArray) (5 : Int) (putKV (⟨#[42]⟩ : ByteArray) (4 : Int) (putKV (⟨#[45]⟩ : ByteArray) (3 : Int) (putKV (⟨#[43]⟩ : ByteArray) (2 : Int) ([] : List (ByteArray × Int))))))))))) (0 : Int))
 (fun z => agreeL [agreeL [agreeL [agreeL [agreeL [z]],agreeL [agreeL [z]]],agreeL [agreeL [agreeL [z]]]]]) (some (.inl (e3,(Option.isSome (getKV y2.2.1 (putKV (⟨#[110,111,116]⟩ : ByteArray) (9 : Int) (putKV (⟨#[111,114]⟩ : ByteArray) (8 : Int) (putKV (⟨#[97,110,100]⟩ : ByteArray) (7 : Int) (putKV (⟨#[60]⟩ : ByteArray) (6 : Int) (putKV (⟨#[61]⟩ : ByteArray) (5 : Int) (putKV (⟨#[42]⟩ : ByteArray) (4 : Int) (putKV (⟨#[45]⟩ : ByteArray) (3 : Int) (putKV (⟨#[43]⟩ : ByteArray) (2 : Int) ([] : List (ByteArray × Int)))))))))))),())))) : Option ((Int × Bool × Unit) ⊕ _)) fun r4 => match r4 with
 | .inl (x4_4,x5_4,_) =>
 ((bif x5_4 then
 some (.inl (x4_4,(0 : Int),(0 : Int),(0 : Int),(⟨#[]⟩ : ByteArray),y2.2.2.2.2.2.1,()))
 else
 Option.bind (
 agreeL [agreeL [agreeL [agreeL [let e5 : tValueT := (Option.getD (getKV y2.2.1 (putKV (⟨#[116,114,117,101]⟩ : ByteArray) ((1 : Int),((1 : Int),(⟨#[]⟩ : ByteArray))) (putKV (⟨#[102,97,108,115,101]⟩ : ByteArray) ((1 : Int),((0 : Int),(⟨#[]⟩ : ByteArray))) (putKV (⟨#[110,117,108,108]⟩ : ByteArray) ((0 : Int),((0 : Int),(⟨#[]⟩ : ByteArray))) ([] : List (ByteArray × tValueT)))))) ((0 : Int),((0 : Int),(⟨#[]⟩ : ByteArray))))
 (fun z => agreeL [agreeL [agreeL [agreeL [agreeL [agreeL [z]]],agreeL [agreeL [agreeL [z]],agreeL [agreeL [z]]]],agreeL [agreeL [agreeL [agreeL [z]]],agreeL [agreeL [agreeL [z]]]],agreeL [agreeL [agreeL [agreeL [z]],agreeL [agreeL [z]]],agreeL [agreeL [agreeL [z]]]]],agreeL [agreeL [agreeL [agreeL [agreeL [z]],agreeL [agreeL [z]]],agreeL [agreeL [agreeL [z]]]]]]) (some (.inl ((Option.isSome (getKV y2.2.1 (putKV (⟨#[116,114,117,101]⟩ : ByteArray) ((1 : Int),((1 : Int),(⟨#[]⟩ : ByteArray))) (putKV (⟨#[102,97,108,115,101]⟩ : ByteArray) ((1 : Int),((0 : Int),(⟨#[]⟩ : ByteArray))) (putKV (⟨#[110,117,108,108]⟩ : ByteArray) ((0 : Int),((0 : Int),(⟨#[]⟩ : ByteArray))) ([] : List (ByteArray × tValueT))))))),e5.1,e5.2.1,e5.2.2,()))),
 agreeL [let e5 : tValueT := (Option.getD (getKV y2.2.1 (putKV (⟨#[116,114,117,101]⟩ : ByteArray) ((1 : Int),((1 : Int),(⟨#[]⟩ : ByteArray))) (putKV (⟨#[102,97,108,115,101]⟩ : ByteArray) ((1 : Int),((0 : Int),(⟨#[]⟩ : ByteArray))) (putKV (⟨#[110,117,108,108]⟩ : ByteArray) ((0 : Int),((0 : Int),(⟨#[]⟩ : ByteArray))) ([] : List (ByteArray × tValueT)))))) ((0 : Int),((0 : Int),(⟨#[]⟩ : ByteArray))))
 (fun z => agreeL [agreeL [agreeL [agreeL [agreeL [z]],agreeL [agreeL [z]]],agreeL [agreeL [agreeL [z]]]]]) (some (.inl ((Option.isSome (getKV y2.2.1 (putKV (⟨#[116,114,117,101]⟩ : ByteArray) ((1 : Int),((1 : Int),(⟨#[]⟩ : ByteArray))) (putKV (⟨#[102,97,108,115,101]⟩ : ByteArray) ((1 : Int),((0 : Int),(⟨#[]⟩ : ByteArray))) (putKV (⟨#[110,117,108,108]⟩ : ByteArray) ((0 : Int),((0 : Int),(⟨#[]⟩ : ByteArray))) ([] : List (ByteArray × tValueT))))))),e5.1,e5.2.1,e5.2.2,())))]],
 agreeL [agreeL [let e5 : tValueT := (Option.getD (getKV y2.2.1 (putKV (⟨#[116,114,117,101]⟩ : ByteArray) ((1 : Int),((1 : Int),(⟨#[]⟩ : ByteArray))) (putKV (⟨#[102,97,108,115,101]⟩ : ByteArray) ((1 : Int),((0 : Int),(⟨#[]⟩ : ByteArray))) (putKV (⟨#[110,117,108,108]⟩ : ByteArray) ((0 : Int),((0 : Int),(⟨#[]⟩ : ByteArray))) ([] : List (ByteArray × tValueT)))))) ((0 : Int),((0 : Int),(⟨#[]⟩ : ByteArray))))
 (fun z => agreeL [agreeL [agreeL [agreeL [agreeL [z]],agreeL [agreeL [z]]],agreeL [agreeL [agreeL [z]]]]]) (some (.inl ((Option.isSome (getKV y2.2.1 (putKV (⟨#[116,114,117,101]⟩ : ByteArray) ((1 : Int),((1 : Int),(⟨#[]⟩ : ByteArray))) (putKV (⟨#[102,97,108,115,101]⟩ : ByteArray) ((1 : Int),((0 : Int),(⟨#[]⟩ : ByteArray))) (putKV (⟨#[110,117,108,108]⟩ : ByteArray) ((0 : Int),((0 : Int),(⟨#[]⟩ : ByteArray))) ([] : List (ByteArray × tValueT))))))),e5.1,e5.2.1,e5.2.2,())))]]],
 agreeL [agreeL [agreeL [let e5 : tValueT := (Option.getD (getKV y2.2.1 (putKV (⟨#[116,114,117,101]⟩ : ByteArray) ((1 : Int),((1 : Int),(⟨#[]⟩ : ByteArray))) (putKV (⟨#[102,97,108,115,101]⟩ : ByteArray) ((1 : Int),((0 : Int),(⟨#[]⟩ : ByteArray))) (putKV (⟨#[110,117,108,108]⟩ : ByteArray) ((0 : Int),((0 : Int),(⟨#[]⟩ : ByteArray))) ([] : List (ByteArray × tValueT)))))) ((0 : Int),((0 : Int),(⟨#[]⟩ : ByteArray))))
 (fun z => agreeL [agreeL [agreeL [agreeL [agreeL [z]],agreeL [agreeL [z]]],agreeL [agreeL [agreeL [z]]]]]) (some (.inl ((Option.isSome (getKV y2.2.1 (putKV (⟨#[116,114,117,101]⟩ : ByteArray) ((1 : Int),((1 : Int),(⟨#[]⟩ : ByteArray))) (putKV (⟨#[102,97,108,115,101]⟩ : ByteArray) ((1 : Int),((0 : Int),(⟨#[]⟩ : ByteArray))) (putKV (⟨#[110,117,108,108]⟩ : ByteArray) ((0 : Int),((0 : Int),(⟨#[]⟩ : ByteArray))) ([] : List (ByteArray × tValueT))))))),e5.1,e5.2.1,e5.2.2,())))]]]],
 agreeL [agreeL [agreeL [let e5 : tValueT := (Option.getD (getKV y2.2.1 (putKV (⟨#[116,114,117,101]⟩ : ByteArray) ((1 : Int),((1 : Int),(⟨#[]⟩ : ByteArray))) (putKV (⟨#[102,97,108,115,101]⟩ : ByteArray) ((1 : Int),((0 : Int),(⟨#[]⟩ : ByteArray))) (putKV (⟨#[110,117,108,108]⟩ : ByteArray) ((0 : Int),((0 : Int),(⟨#[]⟩ : ByteArray))) ([] : List (ByteArray × tValueT)))))) ((0 : Int),((0 : Int),(⟨#[]⟩ : ByteArray))))
 (fun z => agreeL [agreeL [agreeL [agreeL [agreeL [agreeL [z]]],agreeL [agreeL [agreeL [z]],agreeL [agreeL [z]]]],agreeL [agreeL [agreeL [agreeL [z]]],agreeL [agreeL [agreeL [z]]]],agreeL [agreeL [agreeL [agreeL [z]],agreeL [agreeL [z]]],agreeL [agreeL [agreeL [z]]]]],agreeL [agreeL [agreeL [agreeL [agreeL [z]],agreeL [agreeL [z]]],agreeL [agreeL [agreeL [z]]]]]]) (some (.inl ((Option.isSome (getKV y2.2.1 (putKV (⟨#[116,114,117,101]⟩ : ByteArray) ((1 : Int),((1 : Int),(⟨#[]⟩ : ByteArray))) (putKV (⟨#[102,97,108,115,101]⟩ : ByteArray) ((1 : Int),((0 : Int),(⟨#[]⟩ : ByteArray))) (putKV (⟨#[110,117,108,108]⟩ : ByteArray) ((0 : Int),((0 : Int),(⟨#[]⟩ : ByteArray))) ([] : List (ByteArray × tValueT))))))),e5.1,e5.2.1,e5.2.2,()))),
 agreeL [let e5 : tValueT := (Option.getD (getKV y2.2.1 (putKV (⟨#[116,114,117,101]⟩ : ByteArray) ((1 : Int),((1 : Int),(⟨#[]⟩ : ByteArray))) (putKV (⟨#[102,97,108,115,101]⟩ : ByteArray) ((1 : Int),((0 : Int),(⟨#[]⟩ : ByteArray))) (putKV (⟨#[110,117,108,108]⟩ : ByteArray) ((0 : Int),((0 : Int),(⟨#[]⟩ : ByteArray))) ([] : List (ByteArray × tValueT)))))) ((0 : Int),((0 : Int),(⟨#[]⟩ : ByteArray))))
 (fun z => agreeL [agreeL [agreeL [agreeL [agreeL [z]],agreeL [agreeL [z]]],agreeL [agreeL [agreeL [z]]]]]) (some (.inl ((Option.isSome (getKV y2.2.1 (putKV (⟨#[116,114,117,101]⟩ : ByteArray) ((1 : Int),((1 : Int),(⟨#[]⟩ : ByteArray))) (putKV (⟨#[102,97,108,115,101]⟩ : ByteArray) ((1 : Int),((0 : Int),(⟨#[]⟩ : ByteArray))) (putKV (⟨#[110,117,108,108]⟩ : ByteArray) ((0 : Int),((0 : Int),(⟨#[]⟩ : ByteArray))) ([] : List (ByteArray × tValueT))))))),e5.1,e5.2.1,e5.2.2,())))]],
 agreeL [agreeL [let e5 : tValueT := (Option.getD (getKV y2.2.1 (putKV (⟨#[116,114,117,101]⟩ : ByteArray) ((1 : Int),((1 : Int),(⟨#[]⟩ : ByteArray))) (putKV (⟨#[102,97,108,115,101]⟩ : ByteArray) ((1 : Int),((0 : Int),(⟨#[]⟩ : ByteArray))) (putKV (⟨#[110,117,108,108]⟩ : ByteArray) ((0 : Int),((0 : Int),(⟨#[]⟩ : ByteArray))) ([] : List (ByteArray × tValueT)))))) ((0 : Int),((0 : Int),(⟨#[]⟩ : ByteArray))))
 (fun z => agreeL [agreeL [agreeL [agreeL [agreeL [z]],agreeL [agreeL [z]]],agreeL [agreeL [agreeL [z]]]]]) (some (.inl ((Option.isSome (getKV y2.2.1 (putKV (⟨#[116,114,117,101]⟩ : ByteArray) ((1 : Int),((1 : Int),(⟨#[]⟩ : ByteArray))) (putKV (⟨#[102,97,108,115,101]⟩ : ByteArray) ((1 : Int),((0 : Int),(⟨#[]⟩ : ByteArray))) (putKV (⟨#[110,117,108,108]⟩ : ByteArray) ((0 : Int),((0 : Int),(⟨#[]⟩ : ByteArray))) ([] : List (ByteArray × tValueT))))))),e5.1,e5.2.1,e5.2.2,())))]]],
 agreeL [agreeL [let e5 : tValueT := (Option.getD (getKV y2.2.1 (putKV (⟨#[116,114,117,101]⟩ : ByteArray) ((1 : Int),((1 : Int),(⟨#[]⟩ : ByteArray))) (putKV (⟨#[102,97,108,115,101]⟩ : ByteArray) ((1 : Int),((0 : Int),(⟨#[]⟩ : ByteArray))) (putKV (⟨#[110,117,108,108]⟩ : ByteArray) ((0 : Int),((0 : Int),(⟨#[]⟩ : ByteArray))) ([] : List (ByteArray × tValueT)))))) ((0 : Int),((0 : Int),(⟨#[]⟩ : ByteArray))))
 (fun z => agreeL [agreeL [agreeL [agreeL [agreeL [agreeL [z]]],agreeL [agreeL [agreeL [z]],agreeL [agreeL [z]]]],agreeL [agreeL [agreeL [agreeL [z]]],agreeL [agreeL [agreeL [z]]]],agreeL [agreeL [agreeL [agreeL [z]],agreeL [agreeL [z]]],agreeL [agreeL [agreeL [z]]]]],agreeL [agreeL [agreeL [agreeL [agreeL [z]],agreeL [agreeL [z]]],agreeL [agreeL [agreeL [z]]]]]]) (some (.inl ((Option.isSome (getKV y2.2.1 (putKV (⟨#[116,114,117,101]⟩ : ByteArray) ((1 : Int),((1 : Int),(⟨#[]⟩ : ByteArray))) (putKV (⟨#[102,97,108,115,101]⟩ : ByteArray) ((1 : Int),((0 : Int),(⟨#[]⟩ : ByteArray))) (putKV (⟨#[110,117,108,108]⟩ : ByteArray) ((0 : Int),((0 : Int),(⟨#[]⟩ : ByteArray))) ([] : List (ByteArray × tValueT))))))),e5.1,e5.2.1,e5.2.2,()))),
 agreeL [let e5 : tValueT := (Option.getD (getKV y2.2.1 (putKV (⟨#[116,114,117,101]⟩ : ByteArray) ((1 : Int),((1 : Int),(⟨#[]⟩ : ByteArray))) (putKV (⟨#[102,97,108,115,101]⟩ : ByteArray) ((1 : Int),((0 : Int),(⟨#[]⟩ : ByteArray))) (putKV (⟨#[110,117,108,108]⟩ : ByteArray) ((0 : Int),((0 : Int),(⟨#[]⟩ : ByteArray))) ([] : List (ByteArray × tValueT)))))) ((0 : Int),((0 : Int),(⟨#[]⟩ : ByteArray))))
 (fun z => agreeL [agreeL [agreeL [agreeL [agreeL [z]],agreeL [agreeL [z]]],agreeL [agreeL [agreeL [z]]]]]) (some (.inl ((Option.isSome (getKV y2.2.1 (putKV (⟨#[116,114,117,101]⟩ : ByteArray) ((1 : Int),((1 : Int),(⟨#[]⟩ : ByteArray))) (putKV (⟨#[102,97,108,115,101]⟩ : ByteArray) ((1 : Int),((0 : Int),(⟨#[]⟩ : ByteArray))) (putKV (⟨#[110,117,108,108]⟩ : ByteArray) ((0 : Int),((0 : Int),(⟨#[]⟩ : ByteArray))) ([] : List (ByteArray × tValueT))))))),e5.1,e5.2.1,e5.2.2,())))]],
 agreeL [agreeL [let e5 : tValueT := (Option.getD (getKV y2.2.1 (putKV (⟨#[116,114,117,101]⟩ : ByteArray) ((1 : Int),((1 : Int),(⟨#[]⟩ : ByteArray))) (putKV (⟨#[102,97,108,115,101]⟩ : ByteArray) ((1 : Int),((0 : Int),(⟨#[]⟩ : ByteArray))) (putKV (⟨#[110,117,108,108]⟩ : ByteArray) ((0 : Int),((0 : Int),(⟨#[]⟩ : ByteArray))) ([] : List (ByteArray × tValueT)))))) ((0 : Int),((0 : Int),(⟨#[]⟩ : ByteArray))))
 (fun z => agreeL [agreeL [agreeL [agreeL [agreeL [z]],agreeL [agreeL [z]]],agreeL [agreeL [agreeL [z]]]]]) (some (.inl ((Option.isSome (getKV y2.2.1 (putKV (⟨#[116,114,117,101]⟩ : ByteArray) ((1 : Int),((1 : Int),(⟨#[]⟩ : ByteArray))) (putKV (⟨#[102,97,108,115,101]⟩ : ByteArray) ((1 : Int),((0 : Int),(⟨#[]⟩ : ByteArray))) (putKV (⟨#[110,117,108,108]⟩ : ByteArray) ((0 : Int),((0 : Int),(⟨#[]⟩ : ByteArray))) ([] : List (ByteArray × tValueT))))))),e5.1,e5.2.1,e5.2.2,())))]]],
 (fun z => agreeL [agreeL [agreeL [z]],agreeL [agreeL [z]]]) (let e5 : tValueT := (Option.getD (getKV y2.2.1 (putKV (⟨#[116,114,117,101]⟩ : ByteArray) ((1 : Int),((1 : Int),(⟨#[]⟩ : ByteArray))) (putKV (⟨#[102,97,108,115,101]⟩ : ByteArray) ((1 : Int),((0 : Int),(⟨#[]⟩ : ByteArray))) (putKV (⟨#[110,117,108,108]⟩ : ByteArray) ((0 : Int),((0 : Int),(⟨#[]⟩ : ByteArray))) ([] : List (ByteArray × tValueT)))))) ((0 : Int),((0 : Int),(⟨#[]⟩ : ByteArray))))
 (fun z => agreeL [agreeL [agreeL [agreeL [agreeL [z]],agreeL [agreeL [z]]],agreeL [agreeL [agreeL [z]]]]]) (some (.inl ((Option.isSome (getKV y2.2.1 (putKV (⟨#[116,114,117,101]⟩ : ByteArray) ((1 : Int),((1 : Int),(⟨#[]⟩ : ByteArray))) (putKV (⟨#[102,97,108,115,101]⟩ : ByteArray) ((1 : Int),((0 : Int),(⟨#[]⟩ : ByteArray))) (putKV (⟨#[110,117,108,108]⟩ : ByteArray) ((0 : Int),((0 : Int),(⟨#[]⟩ : ByteArray))) ([] : List (ByteArray × tValueT))))))),e5.1,e5.2.1,e5.2.2,()))))],
 (fun z => agreeL [agreeL [agreeL [agreeL [z]]],agreeL [agreeL [agreeL [z]],agreeL [agreeL [z]]]]) (let e5 : tValueT := (Option.getD (getKV y2.2.1 (putKV (⟨#[116,114,117,101]⟩ : ByteArray) ((1 : Int),((1 : Int),(⟨#[]⟩ : ByteArray))) (putKV (⟨#[102,97,108,115,101]⟩ : ByteArray) ((1 : Int),((0 : Int),(⟨#[]⟩ : ByteArray))) (putKV (⟨#[110,117,108,108]⟩ : ByteArray) ((0 : Int),((0 : Int),(⟨#[]⟩ : ByteArray))) ([] : List (ByteArray × tValueT)))))) ((0 : Int),((0 : Int),(⟨#[]⟩ : ByteArray))))
 (fun z => agreeL [agreeL [agreeL [agreeL [agreeL [z]],agreeL [agreeL [z]]],agreeL [agreeL [agreeL [z]]]]]) (some (.inl ((Option.isSome (getKV y2.2.1 (putKV (⟨#[116,114,117,101]⟩ : ByteArray) ((1 : Int),((1 : Int),(⟨#[]⟩ : ByteArray))) (putKV (⟨#[102,97,108,115,101]⟩ : ByteArray) ((1 : Int),((0 : Int),(⟨#[]⟩ : ByteArray))) (putKV (⟨#[110,117,108,108]⟩ : ByteArray) ((0 : Int),((0 : Int),(⟨#[]⟩ : ByteArray))) ([] : List (ByteArray × tValueT))))))),e5.1,e5.2.1,e5.2.2,()))))] : Option ((Bool × Int × Int × ByteArray × Unit) ⊕ _)) fun r6 => match r6 with
 | .inl (x7_6,o6_0_0_6,o6_0_1_6,o6_0_2_6,_) =>
 ((bif x7_6 then
 some (.inl ((1 : Int),(0 : Int),o6_0_0_6,o6_0_1_6,o6_0_2_6,y2.2.2.2.2.2.1,()))
 else
 Option.bind (ddl_column.F (y2.2.1,())) fun y7 =>
 Option.bind (ddl_need.F (y7.2.1,())) fun zy8 => match zy8 with
 | .inl y8 =>
 (some (.inl ((0 : Int),y7.1,(0 : Int),(0 : Int),(⟨#[]⟩ : ByteArray),y2.2.2.2.2.2.1,())))
 | .inr n9 => some (.inr n9)))
 | .inr r => some r))
 | .inr r => some r))
 | .inr n10 => some (.inr n10))
noncomputable def ddl_parser_step.F := stk ddl_parser_step.B
theorem ddl_parser_step.eq : ddl_parser_step.F = ddl_parser_step.B := stk_eq _
noncomputable def ddl_parser_step.ins : Nat → List (Option Slot) → Heap → Option (Code × List ResultVar × H) := fun g xs hp => bif Nat.beq g 103 then some (Tryz.f103.body.getD .skip,Tryz.f103.results.toList,.n) else bif Nat.beq g 123 then some (Tryz.f123.body.getD .skip,Tryz.f123.results.toList,.n) else  none
theorem ddl_parser_step.ins_ok : ∀ n xs hp code res h,ddl_parser_step.ins n xs hp = some (code,res,h) → ∃ nt,FnOk PP n code res nt := by
 intro n xs hp code res h e
 unfold ddl_parser_step.ins at e
 cases e0 : (Nat.beq n 103) with
 | true => rw [e0] at e; cases e; rw [Nat.eq_of_beq_eq_true e0]; exact ⟨_,fnOk_mk (by kernel_rfl) (by kernel_rfl) (by kernel_rfl) (by kernel_rfl)⟩
 | false =>
 rw [e0] at e
 cases e1 : (Nat.beq n 123) with
 | true => rw [e1] at e; cases e; rw [Nat.eq_of_beq_eq_true e1]; exact ⟨_,fnOk_mk (by kernel_rfl) (by kernel_rfl) (by kernel_rfl) (by kernel_rfl)⟩
 | false =>
 rw [e1] at e
 cases e
theorem ddl_parser_step.ev (x : TS ddl_parser_step.si) : evFP cddl_column (inlS cddl_column ddl_parser_step.ins (inlS cddl_column ddl_parser_step.ins (inlS cddl_column ddl_parser_step.ins inl0))) (Tryz.f102.body.getD .skip) Tryz.f102.results.toList ddl_parser_step.h ddl_parser_step.si ddl_parser_step.so x = ddl_parser_step.B x := by kernel_rfl
theorem ddl_parser_step.fn : FnOk PP 102 (Tryz.f102.body.getD .skip) Tryz.f102.results.toList Tryz.f102.ntmps := fnOk_mk (by kernel_rfl) (by kernel_rfl) (by kernel_rfl) (by kernel_rfl)
theorem ddl_parser_step.ok : SpecPOk PP 102 67 ⟨1,ddl_parser_step.si,ddl_parser_step.so,ddl_parser_step.F⟩ := fnP_stk cxddl_column (inlS_ok cxddl_column (inlS_ok cxddl_column (inlS_ok cxddl_column (inl0_ok _ _) (drawnOk cxddl_column mixed) ddl_parser_step.ins_ok) (drawnOk cxddl_column mixed) ddl_parser_step.ins_ok) (drawnOk cxddl_column mixed) ddl_parser_step.ins_ok) mixed ddl_parser_step.fn ddl_parser_step.h (by kernel_rfl) ddl_parser_step.ev
noncomputable def sqddl_parser_step : List (Nat × List (Nat × AK) × Lv.SpecP) := (102,[],⟨1,ddl_parser_step.si,ddl_parser_step.so,ddl_parser_step.F⟩) :: sqddl_parser_columnOf
noncomputable abbrev cddl_parser_step : Cx := ⟨tabAt tab0,eqAt eqs0,specAt spddl_column,67,specPAt sqddl_parser_step⟩
theorem cxddl_parser_step : CxOk PP cddl_parser_step := cxddl_column.consP [] ddl_parser_step.fn.enters ddl_parser_step.ok
def ddl_parser_expr.si : Sh := ⟨[(0,.v false [.ptr 0 0])],[(0,true,.box 70 [.sl 110 tTok])],[],1,[]⟩
def ddl_parser_expr.so : Sh := ⟨[(0,.v false [.ref 1001])],[(0,true,.box 70 [.sl 110 tTok]),(1001,false,.arr 53 tNode)],[],1002,[(0,0)]⟩
def ddl_parser_expr.h : H := (.s none .n (.s none .n (.s none .n (.s none (.b (.l ⟨[(0,.v false [.ptr 1 0]),(3,.v false [.ref 0])],[(0,false,.arr 53 tNode),(1,true,.box 70 [.sl 110 tTok])],[],2,[]⟩ .n)) .n))))
noncomputable def ddl_parser_expr.B : (List tTokT) × Unit → Option (((List tTokT) × (List tNodeT) × Unit) ⊕ Int) := fun (o0,_) =>
 Option.bind (ddl_parser_take.F ([(⟨#[91]⟩ : ByteArray)],o0,())) fun y1 =>
 Option.bind (ddl_need.F (y1.1,())) fun zy2 => match zy2 with
 | .inl y2 =>
 (loopM (S := (List tNodeT) × (List tTokT) × Unit) (fun (o3_0,o0_0,_) =>
 Option.bind (ddl_parser_take.F ([(⟨#[93]⟩ : ByteArray)],o0_0,())) fun y3 =>
 (bif (!y3.1) then
 Option.bind (ddl_parser_step.F (y3.2.1,())) fun zy4 => match zy4 with
 | .inl y4 =>
 (bif (Nat.ble (o3_0.length + [(y4.1,(y4.2.1,(y4.2.2.1,(y4.2.2.2.1,y4.2.2.2.2.1))))].length) 2932031007402) then
 Option.bind (ddl_need.F ((decide (((o3_0 ++ [(y4.1,(y4.2.1,(y4.2.2.1,(y4.2.2.2.1,y4.2.2.2.2.1))))]).length : Int) ≤ (100 : Int))),())) fun zy5 => match zy5 with
 | .inl y5 =>
 (some (.inl ((o3_0 ++ [(y4.1,(y4.2.1,(y4.2.2.1,(y4.2.2.2.1,y4.2.2.2.2.1))))]),y4.2.2.2.2.2.1,())))
 | .inr n6 => some (.inr (.inr n6))
 else none)
 | .inr n7 => some (.inr (.inr n7))
 else
 some (.inr (.inl (y3.2.1,o3_0,()))))) ([],y1.2.1,()))
 | .inr n8 => some (.inr n8)
noncomputable def ddl_parser_expr.F := stk ddl_parser_expr.B
theorem ddl_parser_expr.eq : ddl_parser_expr.F = ddl_parser_expr.B := stk_eq _
theorem ddl_parser_expr.ev (x : TS ddl_parser_expr.si) : evFP cddl_parser_step inl0 (Tryz.f68.body.getD .skip) Tryz.f68.results.toList ddl_parser_expr.h ddl_parser_expr.si ddl_parser_expr.so x = ddl_parser_expr.B x := by kernel_rfl
theorem ddl_parser_expr.fn : FnOk PP 68 (Tryz.f68.body.getD .skip) Tryz.f68.results.toList Tryz.f68.ntmps := fnOk_mk (by kernel_rfl) (by kernel_rfl) (by kernel_rfl) (by kernel_rfl)
theorem ddl_parser_expr.ok : SpecPOk PP 68 67 ⟨1,ddl_parser_expr.si,ddl_parser_expr.so,ddl_parser_expr.F⟩ := fnP_stk cxddl_parser_step (inl0_ok _ _) mixed ddl_parser_expr.fn ddl_parser_expr.h (by kernel_rfl) ddl_parser_expr.ev
noncomputable def sqddl_parser_expr : List (Nat × List (Nat × AK) × Lv.SpecP) := (68,[],⟨1,ddl_parser_expr.si,ddl_parser_expr.so,ddl_parser_expr.F⟩) :: sqddl_parser_step
noncomputable abbrev cddl_parser_expr : Cx := ⟨tabAt tab0,eqAt eqs0,specAt spddl_column,67,specPAt sqddl_parser_expr⟩
theorem cxddl_parser_expr : CxOk PP cddl_parser_expr := cxddl_parser_step.consP [] ddl_parser_expr.fn.enters ddl_parser_expr.ok
def ddl_parser_table.si : Sh := ⟨[(0,.v false [.ptr 0 0])],[(0,true,.box 70 [.sl 110 tTok])],[],1,[]⟩
def ddl_parser_table.so : Sh := ⟨[(0,.v true [.str,.ref 1001,.ref 1002])],[(0,true,.box 70 [.sl 110 tTok]),(1001,false,.arr 49 tColumn),(1002,false,.arr 28 (.sl 53 tNode))],[],1003,[(0,0)]⟩
def ddl_parser_table.h : H := (.s none .n (.s none .n (.s none .n (.s none .n (.s none .n (.s (some ⟨[(3,.v false [.ptr 2 0])],[(0,true,.box 70 [.sl 110 tTok]),(1,true,.box 68 [.ptr 0 0]),(2,true,.box 25 [.str,.ref 3,.ref 4]),(3,false,.arr 49 tColumn),(4,false,.arr 28 (.sl 53 tNode))],[2],5,[(0,0),(1,1000)]⟩) (.b (.l ⟨[(1,.v false [.ptr 0 0]),(3,.v false [.ptr 2 0])],[(0,true,.box 68 [.ptr 1 0]),(1,true,.box 70 [.sl 110 tTok]),(2,true,.box 25 [.str,.ref 3,.ref 4]),(3,false,.arr 49 tColumn),(4,false,.arr 28 (.sl 53 tNode))],[2],5,[]⟩ (.s none .n (.b (.s (some ⟨[(1,.v false [.ptr 0 0]),(3,.v false [.ptr 2 0])],[(0,true,.box 68 [.ptr 1 0]),(1,true,.box 70 [.sl 110 tTok]),(2,true,.box 25 [.str,.ref 3,.ref 4]),(3,false,.arr 49 tColumn),(4,false,.arr 28 (.sl 53 tNode))],[2],5,[]⟩) .d .n))))) .n))))))
noncomputable def ddl_parser_table.B : (List tTokT) × Unit → Option ((ByteArray × (List tTokT) × (List tColumnT) × (List (List tNodeT)) × Unit) ⊕ Int) := fun (o0,_) =>
 Option.bind (ddl_parser_name.F (o0,())) fun zy1 => match zy1 with
 | .inl y1 =>
 (Option.bind (ddl_parser_take.F ([(⟨#[40]⟩ : ByteArray)],y1.2.1,())) fun y2 =>
 Option.bind (ddl_need.F (y2.1,())) fun zy3 => match zy3 with
 | .inl y3 =>
 (Option.bind (
 agreeL [agreeL [agreeL [agreeL [Option.bind (ddl_parser_columnOf.F (y2.2.1,())) fun zy4 => match zy4 with
 | .inl y4 =>
 (agreeL [agreeL [bif (Nat.ble [(y4.1,(y4.2.1,(y4.2.2.1,(y4.2.2.2.1,(y4.2.2.2.2.1,y4.2.2.2.2.2.1)))))].length 2513169434916) then
 agreeL [agreeL [some (.inl (y1.1,[(y4.1,(y4.2.1,(y4.2.2.1,(y4.2.2.2.1,(y4.2.2.2.2.1,y4.2.2.2.2.2.1)))))],[],y4.2.2.2.2.2.2.1,()))]]
 else none]])
 | .inr n5 => some (.inr (.inr n5))]],
 agreeL [agreeL [Option.bind (ddl_parser_columnOf.F (y2.2.1,())) fun zy4 => match zy4 with
 | .inl y4 =>
 (agreeL [agreeL [bif (Nat.ble [(y4.1,(y4.2.1,(y4.2.2.1,(y4.2.2.2.1,(y4.2.2.2.2.1,y4.2.2.2.2.2.1)))))].length 2513169434916) then
 agreeL [agreeL [some (.inl (y1.1,[(y4.1,(y4.2.1,(y4.2.2.1,(y4.2.2.2.1,(y4.2.2.2.2.1,y4.2.2.2.2.2.1)))))],[],y4.2.2.2.2.2.2.1,()))]]
 else none]])
 | .inr n5 => some (.inr (.inr n5))],
 Option.bind (ddl_parser_columnOf.F (y2.2.1,())) fun zy4 => match zy4 with
 | .inl y4 =>
 ((fun z => agreeL [agreeL [agreeL [z]],agreeL [agreeL [z]]]) (bif (Nat.ble [(y4.1,(y4.2.1,(y4.2.2.1,(y4.2.2.2.1,(y4.2.2.2.2.1,y4.2.2.2.2.2.1)))))].length 2513169434916) then
 agreeL [agreeL [some (.inl (y1.1,[(y4.1,(y4.2.1,(y4.2.2.1,(y4.2.2.2.1,(y4.2.2.2.2.1,y4.2.2.2.2.2.1)))))],[],y4.2.2.2.2.2.2.1,()))]]
 else none))
 | .inr n5 => some (.inr (.inr n5))]],
 agreeL [agreeL [agreeL [Option.bind (ddl_parser_columnOf.F (y2.2.1,())) fun zy4 => match zy4 with
 | .inl y4 =>
 (agreeL [agreeL [bif (Nat.ble [(y4.1,(y4.2.1,(y4.2.2.1,(y4.2.2.2.1,(y4.2.2.2.2.1,y4.2.2.2.2.2.1)))))].length 2513169434916) then
 agreeL [agreeL [some (.inl (y1.1,[(y4.1,(y4.2.1,(y4.2.2.1,(y4.2.2.2.1,(y4.2.2.2.2.1,y4.2.2.2.2.2.1)))))],[],y4.2.2.2.2.2.2.1,()))]]
 else none]])
 | .inr n5 => some (.inr (.inr n5))],
 Option.bind (ddl_parser_columnOf.F (y2.2.1,())) fun zy4 => match zy4 with
 | .inl y4 =>
 ((fun z => agreeL [agreeL [agreeL [z]],agreeL [agreeL [z]]]) (bif (Nat.ble [(y4.1,(y4.2.1,(y4.2.2.1,(y4.2.2.2.1,(y4.2.2.2.2.1,y4.2.2.2.2.2.1)))))].length 2513169434916) then
 agreeL [agreeL [some (.inl (y1.1,[(y4.1,(y4.2.1,(y4.2.2.1,(y4.2.2.2.1,(y4.2.2.2.2.1,y4.2.2.2.2.2.1)))))],[],y4.2.2.2.2.2.2.1,()))]]
 else none))
 | .inr n5 => some (.inr (.inr n5))],
 Option.bind (ddl_parser_columnOf.F (y2.2.1,())) fun zy4 => match zy4 with
 | .inl y4 =>
 ((fun z => agreeL [agreeL [agreeL [agreeL [z]],agreeL [agreeL [z]]],agreeL [agreeL [agreeL [z]]]]) (bif (Nat.ble [(y4.1,(y4.2.1,(y4.2.2.1,(y4.2.2.2.1,(y4.2.2.2.2.1,y4.2.2.2.2.2.1)))))].length 2513169434916) then
 agreeL [agreeL [some (.inl (y1.1,[(y4.1,(y4.2.1,(y4.2.2.1,(y4.2.2.2.1,(y4.2.2.2.2.1,y4.2.2.2.2.2.1)))))],[],y4.2.2.2.2.2.2.1,()))]]
 else none))
 | .inr n5 => some (.inr (.inr n5))]] : Option ((ByteArray × (List tColumnT) × (List (List tNodeT)) × (List tTokT) × Unit) ⊕ _)) fun r6 => match r6 with
 | .inl (ok_1_0_0_6,ok_1_0_1_6,ok_1_0_2_6,o0_0_6,_) =>
 (loopM (S := Int × ByteArray × (List tColumnT) × (List (List tNodeT)) × (List tTokT) × Unit) (fun (x4,ok_1_0_0,ok_1_0_1,ok_1_0_2,o0_0,_) =>
 Option.bind (ddl_parser_take.F ([(⟨#[44]⟩ : ByteArray)],o0_0,())) fun y7 =>
 (bif y7.1 then
 let e8 : Int := (IntKind.i64.wrap (x4 + (1 : Int)))
 Option.bind (ddl_need.F ((decide (e8 ≤ (40 : Int))),())) fun zy9 => match zy9 with
 | .inl y9 =>
 (agreeL [agreeL [agreeL [agreeL [Option.bind (ddl_parser_columnOf.F (y7.2.1,())) fun zy10 => match zy10 with
 | .inl y10 =>
 (agreeL [agreeL [bif (Nat.ble (ok_1_0_1.length + [(y10.1,(y10.2.1,(y10.2.2.1,(y10.2.2.2.1,(y10.2.2.2.2.1,y10.2.2.2.2.2.1)))))].length) 2513169434916) then
 agreeL [agreeL [some (.inl (e8,ok_1_0_0,(ok_1_0_1 ++ [(y10.1,(y10.2.1,(y10.2.2.1,(y10.2.2.2.1,(y10.2.2.2.2.1,y10.2.2.2.2.2.1)))))]),ok_1_0_2,y10.2.2.2.2.2.2.1,()))]]
 else none]])
 | .inr n11 => some (.inr (.inr n11))]],
 agreeL [agreeL [Option.bind (ddl_parser_columnOf.F (y7.2.1,())) fun zy10 => match zy10 with
 | .inl y10 =>
 (agreeL [agreeL [bif (Nat.ble (ok_1_0_1.length + [(y10.1,(y10.2.1,(y10.2.2.1,(y10.2.2.2.1,(y10.2.2.2.2.1,y10.2.2.2.2.2.1)))))].length) 2513169434916) then
 agreeL [agreeL [some (.inl (e8,ok_1_0_0,(ok_1_0_1 ++ [(y10.1,(y10.2.1,(y10.2.2.1,(y10.2.2.2.1,(y10.2.2.2.2.1,y10.2.2.2.2.2.1)))))]),ok_1_0_2,y10.2.2.2.2.2.2.1,()))]]
 else none]])
 | .inr n11 => some (.inr (.inr n11))],
 Option.bind (ddl_parser_columnOf.F (y7.2.1,())) fun zy10 => match zy10 with
 | .inl y10 =>
 ((fun z => agreeL [agreeL [agreeL [z]],agreeL [agreeL [z]]]) (bif (Nat.ble (ok_1_0_1.length + [(y10.1,(y10.2.1,(y10.2.2.1,(y10.2.2.2.1,(y10.2.2.2.2.1,y10.2.2.2.2.2.1)))))].length) 2513169434916) then
 agreeL [agreeL [some (.inl (e8,ok_1_0_0,(ok_1_0_1 ++ [(y10.1,(y10.2.1,(y10.2.2.1,(y10.2.2.2.1,(y10.2.2.2.2.1,y10.2.2.2.2.2.1)))))]),ok_1_0_2,y10.2.2.2.2.2.2.1,()))]]
 else none))
 | .inr n11 => some (.inr (.inr n11))]],
 agreeL [agreeL [agreeL [Option.bind (ddl_parser_columnOf.F (y7.2.1,())) fun zy10 => match zy10 with
 | .inl y10 =>
 (agreeL [agreeL [bif (Nat.ble (ok_1_0_1.length + [(y10.1,(y10.2.1,(y10.2.2.1,(y10.2.2.2.1,(y10.2.2.2.2.1,y10.2.2.2.2.2.1)))))].length) 2513169434916) then
 agreeL [agreeL [some (.inl (e8,ok_1_0_0,(ok_1_0_1 ++ [(y10.1,(y10.2.1,(y10.2.2.1,(y10.2.2.2.1,(y10.2.2.2.2.1,y10.2.2.2.2.2.1)))))]),ok_1_0_2,y10.2.2.2.2.2.2.1,()))]]
 else none]])
 | .inr n11 => some (.inr (.inr n11))],
 Option.bind (ddl_parser_columnOf.F (y7.2.1,())) fun zy10 => match zy10 with
 | .inl y10 =>
 ((fun z => agreeL [agreeL [agreeL [z]],agreeL [agreeL [z]]]) (bif (Nat.ble (ok_1_0_1.length + [(y10.1,(y10.2.1,(y10.2.2.1,(y10.2.2.2.1,(y10.2.2.2.2.1,y10.2.2.2.2.2.1)))))].length) 2513169434916) then
 agreeL [agreeL [some (.inl (e8,ok_1_0_0,(ok_1_0_1 ++ [(y10.1,(y10.2.1,(y10.2.2.1,(y10.2.2.2.1,(y10.2.2.2.2.1,y10.2.2.2.2.2.1)))))]),ok_1_0_2,y10.2.2.2.2.2.2.1,()))]]
 else none))
 | .inr n11 => some (.inr (.inr n11))],
 Option.bind (ddl_parser_columnOf.F (y7.2.1,())) fun zy10 => match zy10 with
 | .inl y10 =>
 ((fun z => agreeL [agreeL [agreeL [agreeL [z]],agreeL [agreeL [z]]],agreeL [agreeL [agreeL [z]]]]) (bif (Nat.ble (ok_1_0_1.length + [(y10.1,(y10.2.1,(y10.2.2.1,(y10.2.2.2.1,(y10.2.2.2.2.1,y10.2.2.2.2.2.1)))))].length) 2513169434916) then
 agreeL [agreeL [some (.inl (e8,ok_1_0_0,(ok_1_0_1 ++ [(y10.1,(y10.2.1,(y10.2.2.1,(y10.2.2.2.1,(y10.2.2.2.2.1,y10.2.2.2.2.2.1)))))]),ok_1_0_2,y10.2.2.2.2.2.2.1,()))]]
 else none))
 | .inr n11 => some (.inr (.inr n11))]])
 | .inr n12 => some (.inr (.inr n12))
 else
 Option.map Sum.inr (Option.bind (ddl_parser_take.F ([(⟨#[41]⟩ : ByteArray)],y7.2.1,())) fun y13 =>
 Option.bind (ddl_need.F (y13.1,())) fun zy14 => match zy14 with
 | .inl y14 =>
 (Option.bind (
 loopM (S := (List tTokT) × ByteArray × (List tColumnT) × (List (List tNodeT)) × Unit) (fun (o1_0_0,o3_0_0,o3_0_1,o3_0_2,_) =>
 Option.bind (ddl_parser_take.F ([(⟨#[99,104,101,99,107]⟩ : ByteArray)],o1_0_0,())) fun y15 =>
 (bif y15.1 then
 Option.bind (
 agreeL [agreeL [agreeL [agreeL [Option.bind (ddl_parser_expr.F (y15.2.1,())) fun zy16 => match zy16 with
 | .inl y16 =>
 (agreeL [agreeL [bif (Nat.ble (o3_0_2.length + [y16.2.1].length) 5864062014805) then
 agreeL [agreeL [some (.inl (y16.1,o3_0_0,o3_0_1,(o3_0_2 ++ [y16.2.1]),()))]]
 else none]])
 | .inr n17 => some (.inr (.inr (.inr (.inr n17))))]],
 agreeL [agreeL [Option.bind (ddl_parser_expr.F (y15.2.1,())) fun zy16 => match zy16 with
 | .inl y16 =>
 (agreeL [agreeL [bif (Nat.ble (o3_0_2.length + [y16.2.1].length) 5864062014805) then
 agreeL [agreeL [some (.inl (y16.1,o3_0_0,o3_0_1,(o3_0_2 ++ [y16.2.1]),()))]]
 else none]])
 | .inr n17 => some (.inr (.inr (.inr (.inr n17))))],
 Option.bind (ddl_parser_expr.F (y15.2.1,())) fun zy16 => match zy16 with
 | .inl y16 =>
 ((fun z => agreeL [agreeL [agreeL [z]],agreeL [agreeL [z]]]) (bif (Nat.ble (o3_0_2.length + [y16.2.1].length) 5864062014805) then
 agreeL [agreeL [some (.inl (y16.1,o3_0_0,o3_0_1,(o3_0_2 ++ [y16.2.1]),()))]]
 else none))
 | .inr n17 => some (.inr (.inr (.inr (.inr n17))))]],
 agreeL [agreeL [agreeL [Option.bind (ddl_parser_expr.F (y15.2.1,())) fun zy16 => match zy16 with
 | .inl y16 =>
 (agreeL [agreeL [bif (Nat.ble (o3_0_2.length + [y16.2.1].length) 5864062014805) then
 agreeL [agreeL [some (.inl (y16.1,o3_0_0,o3_0_1,(o3_0_2 ++ [y16.2.1]),()))]]
 else none]])
 | .inr n17 => some (.inr (.inr (.inr (.inr n17))))],
 Option.bind (ddl_parser_expr.F (y15.2.1,())) fun zy16 => match zy16 with
 | .inl y16 =>
 ((fun z => agreeL [agreeL [agreeL [z]],agreeL [agreeL [z]]]) (bif (Nat.ble (o3_0_2.length + [y16.2.1].length) 5864062014805) then
 agreeL [agreeL [some (.inl (y16.1,o3_0_0,o3_0_1,(o3_0_2 ++ [y16.2.1]),()))]]
 else none))
 | .inr n17 => some (.inr (.inr (.inr (.inr n17))))],
 Option.bind (ddl_parser_expr.F (y15.2.1,())) fun zy16 => match zy16 with
 | .inl y16 =>
 ((fun z => agreeL [agreeL [agreeL [agreeL [z]],agreeL [agreeL [z]]],agreeL [agreeL [agreeL [z]]]]) (bif (Nat.ble (o3_0_2.length + [y16.2.1].length) 5864062014805) then
 agreeL [agreeL [some (.inl (y16.1,o3_0_0,o3_0_1,(o3_0_2 ++ [y16.2.1]),()))]]
 else none))
 | .inr n17 => some (.inr (.inr (.inr (.inr n17))))]] : Option (((List tTokT) × ByteArray × (List tColumnT) × (List (List tNodeT)) × Unit) ⊕ _)) fun r18 => match r18 with
 | .inl (o1_0_0_18,o3_0_0_18,o3_0_1_18,o3_0_2_18,_) =>
 (Option.bind (ddl_need.F ((decide ((o3_0_2_18.length : Int) ≤ (40 : Int))),())) fun zy19 => match zy19 with
 | .inl y19 =>
 (some (.inl (o1_0_0_18,o3_0_0_18,o3_0_1_18,o3_0_2_18,())))
 | .inr n20 => some (.inr (.inr (.inr n20))))
 | .inr r => some r
 else
 some (.inr (.inl (y15.2.1,o3_0_0,o3_0_1,o3_0_2,()))))) (y13.2.1,ok_1_0_0,ok_1_0_1,ok_1_0_2,()) : Option (((List tTokT) × ByteArray × (List tColumnT) × (List (List tNodeT)) × Unit) ⊕ _)) fun r21 => match r21 with
 | .inl (oin_0_21,o3_0_0_21,o3_0_1_21,o3_0_2_21,_) =>
 (some (.inl (o3_0_0_21,oin_0_21,o3_0_1_21,o3_0_2_21,())))
 | .inr r => some r)
 | .inr n22 => some (.inr n22)))) ((1 : Int),ok_1_0_0_6,ok_1_0_1_6,ok_1_0_2_6,o0_0_6,()))
 | .inr r => some r)
 | .inr n23 => some (.inr n23))
 | .inr n24 => some (.inr n24)
noncomputable def ddl_parser_table.F := stk ddl_parser_table.B
theorem ddl_parser_table.eq : ddl_parser_table.F = ddl_parser_table.B := stk_eq _
noncomputable def ddl_parser_table.ins : Nat → List (Option Slot) → Heap → Option (Code × List ResultVar × H) := fun g xs hp => bif Nat.beq g 65 && cloK xs hp 1 66 then some (Tryz.f65.body.getD .skip,Tryz.f65.results.toList,(.s none .n (.s (some ⟨[(0,.v false [.ptr 3 0])],[(0,true,.box 25 [.str,.ref 1,.ref 2]),(1,false,.arr 49 tColumn),(2,false,.arr 28 (.sl 53 tNode)),(3,true,.box 70 [.sl 110 tTok])],[1,4],4,[(0,1003)]⟩) .n (.b (.l ⟨[(0,.v false [.ptr 3 0]),(4,.v false [.int .i64])],[(0,true,.box 25 [.str,.ref 1,.ref 2]),(1,false,.arr 49 tColumn),(2,false,.arr 28 (.sl 53 tNode)),(3,true,.box 70 [.sl 110 tTok])],[1],4,[(0,1003)]⟩ .n))))) else bif Nat.beq g 66 then some (Tryz.f66.body.getD .skip,Tryz.f66.results.toList,.d) else  none
theorem ddl_parser_table.ins_ok : ∀ n xs hp code res h,ddl_parser_table.ins n xs hp = some (code,res,h) → ∃ nt,FnOk PP n code res nt := by
 intro n xs hp code res h e
 unfold ddl_parser_table.ins at e
 cases e0 : (Nat.beq n 65 && cloK xs hp 1 66) with
 | true => rw [e0] at e; cases e; rw [Nat.eq_of_beq_eq_true (Bool.and_eq_true_iff.1 e0).1]; exact ⟨_,fnOk_mk (by kernel_rfl) (by kernel_rfl) (by kernel_rfl) (by kernel_rfl)⟩
 | false =>
 rw [e0] at e
 cases e1 : (Nat.beq n 66) with
 | true => rw [e1] at e; cases e; rw [Nat.eq_of_beq_eq_true e1]; exact ⟨_,fnOk_mk (by kernel_rfl) (by kernel_rfl) (by kernel_rfl) (by kernel_rfl)⟩
 | false =>
 rw [e1] at e
 cases e
theorem ddl_parser_table.ev (x : TS ddl_parser_table.si) : evFP cddl_parser_expr (inlS cddl_parser_expr ddl_parser_table.ins (inlS cddl_parser_expr ddl_parser_table.ins (inlS cddl_parser_expr ddl_parser_table.ins inl0))) (Tryz.f29.body.getD .skip) Tryz.f29.results.toList ddl_parser_table.h ddl_parser_table.si ddl_parser_table.so x = ddl_parser_table.B x := by kernel_rfl
theorem ddl_parser_table.fn : FnOk PP 29 (Tryz.f29.body.getD .skip) Tryz.f29.results.toList Tryz.f29.ntmps := fnOk_mk (by kernel_rfl) (by kernel_rfl) (by kernel_rfl) (by kernel_rfl)
theorem ddl_parser_table.ok : SpecPOk PP 29 67 ⟨1,ddl_parser_table.si,ddl_parser_table.so,ddl_parser_table.F⟩ := fnP_stk cxddl_parser_expr (inlS_ok cxddl_parser_expr (inlS_ok cxddl_parser_expr (inlS_ok cxddl_parser_expr (inl0_ok _ _) (drawnOk cxddl_parser_expr mixed) ddl_parser_table.ins_ok) (drawnOk cxddl_parser_expr mixed) ddl_parser_table.ins_ok) (drawnOk cxddl_parser_expr mixed) ddl_parser_table.ins_ok) mixed ddl_parser_table.fn ddl_parser_table.h (by kernel_rfl) ddl_parser_table.ev
noncomputable def sqddl_parser_table : List (Nat × List (Nat × AK) × Lv.SpecP) := (29,[],⟨1,ddl_parser_table.si,ddl_parser_table.so,ddl_parser_table.F⟩) :: sqddl_parser_expr
noncomputable abbrev cddl_parser_table : Cx := ⟨tabAt tab0,eqAt eqs0,specAt spddl_column,67,specPAt sqddl_parser_table⟩
theorem cxddl_parser_table : CxOk PP cddl_parser_table := cxddl_parser_expr.consP [] ddl_parser_table.fn.enters ddl_parser_table.ok
def ddl_parser_col.si : Sh := ⟨[(0,.v false [.ptr 0 0])],[(0,true,.box 70 [.sl 110 tTok])],[],1,[]⟩
def ddl_parser_col.so : Sh := ⟨[(0,.v false [.int .i64])],[(0,true,.box 70 [.sl 110 tTok])],[],1001,[(0,0)]⟩
def ddl_parser_col.h : H := (.s none .n (.s none .n (.s (some ⟨[],[],[3],0,[]⟩) .n .n)))
noncomputable def ddl_parser_col.B : (List tTokT) × Unit → Option ((Int × (List tTokT) × Unit) ⊕ Int) := fun (o0,_) =>
 Option.bind (ddl_parser_next.F (o0,())) fun zy1 => match zy1 with
 | .inl y1 =>
 (Option.bind (
 (bif (y1.1 == (1 : Int)) then
 (bif (y1.2.2.1 == (2 : Int)) then
 (bif (decide (y1.2.2.2.1 ≥ (0 : Int))) then
 Option.bind (ddl_need.F ((decide (y1.2.2.2.1 ≤ (99 : Int))),())) fun zy2 => match zy2 with
 | .inl y2 =>
 (some (.inl (())))
 | .inr n3 => some (.inr (.inr n3))
 else
 Option.bind (ddl_need.F (false,())) fun zy4 => match zy4 with
 | .inl y4 =>
 (some (.inl (())))
 | .inr n5 => some (.inr (.inr n5)))
 else
 Option.bind (ddl_need.F (false,())) fun zy6 => match zy6 with
 | .inl y6 =>
 (some (.inl (())))
 | .inr n7 => some (.inr (.inr n7)))
 else
 Option.bind (ddl_need.F (false,())) fun zy8 => match zy8 with
 | .inl y8 =>
 (some (.inl (())))
 | .inr n9 => some (.inr (.inr n9))) : Option ((Unit) ⊕ _)) fun r10 => match r10 with
 | .inl (_) =>
 (some (.inl (y1.2.2.2.1,y1.2.2.2.2.2.1,())))
 | .inr r => some r)
 | .inr n11 => some (.inr n11)
noncomputable def ddl_parser_col.F := stk ddl_parser_col.B
theorem ddl_parser_col.eq : ddl_parser_col.F = ddl_parser_col.B := stk_eq _
theorem ddl_parser_col.ev (x : TS ddl_parser_col.si) : evFP cddl_parser_table inl0 (Tryz.f69.body.getD .skip) Tryz.f69.results.toList ddl_parser_col.h ddl_parser_col.si ddl_parser_col.so x = ddl_parser_col.B x := by kernel_rfl
theorem ddl_parser_col.fn : FnOk PP 69 (Tryz.f69.body.getD .skip) Tryz.f69.results.toList Tryz.f69.ntmps := fnOk_mk (by kernel_rfl) (by kernel_rfl) (by kernel_rfl) (by kernel_rfl)
theorem ddl_parser_col.ok : SpecPOk PP 69 67 ⟨1,ddl_parser_col.si,ddl_parser_col.so,ddl_parser_col.F⟩ := fnP_stk cxddl_parser_table (inl0_ok _ _) mixed ddl_parser_col.fn ddl_parser_col.h (by kernel_rfl) ddl_parser_col.ev
noncomputable def sqddl_parser_col : List (Nat × List (Nat × AK) × Lv.SpecP) := (69,[],⟨1,ddl_parser_col.si,ddl_parser_col.so,ddl_parser_col.F⟩) :: sqddl_parser_table
noncomputable abbrev cddl_parser_col : Cx := ⟨tabAt tab0,eqAt eqs0,specAt spddl_column,67,specPAt sqddl_parser_col⟩
theorem cxddl_parser_col : CxOk PP cddl_parser_col := cxddl_parser_table.consP [] ddl_parser_col.fn.enters ddl_parser_col.ok
def ddl_parser_view.si : Sh := ⟨[(0,.v false [.ptr 0 0])],[(0,true,.box 70 [.sl 110 tTok])],[],1,[]⟩
def ddl_parser_view.so : Sh := ⟨[(0,.v true [.str,.str,.str,.int .i64,.int .i64,.ref 1001,.ref 1002,.bool,.ref 1003])],[(0,true,.box 70 [.sl 110 tTok]),(1001,false,.arr 53 tNode),(1002,false,.arr 3 (.int .i64)),(1003,false,.arr 78 tAgg)],[],1004,[(0,0)]⟩
def ddl_parser_view.h : H := (.s none .n (.s none .n (.s none .n (.s none .n (.s (some ⟨[(1,.v false [.ptr 0 0]),(3,.v false [.ptr 2 0])],[(0,true,.box 68 [.ptr 1 0]),(1,true,.box 70 [.sl 110 tTok]),(2,true,.box 32 [.str,.str,.str,.int .i64,.int .i64,.ref 3,.ref 4,.bool,.ref 5]),(3,false,.arr 53 tNode),(4,false,.arr 3 (.int .i64)),(5,false,.arr 78 tAgg)],[2],6,[]⟩) .n (.s (some ⟨[(1,.v false [.ptr 0 0]),(3,.v false [.ptr 2 0])],[(0,true,.box 68 [.ptr 1 0]),(1,true,.box 70 [.sl 110 tTok]),(2,true,.box 32 [.str,.str,.str,.int .i64,.int .i64,.ref 3,.ref 4,.bool,.ref 5]),(3,false,.arr 53 tNode),(4,false,.arr 3 (.int .i64)),(5,false,.arr 78 tAgg)],[2],6,[]⟩) .n (.s none .n (.s (some ⟨[(1,.v false [.ptr 0 0]),(3,.v false [.ptr 2 0])],[(0,true,.box 68 [.ptr 1 0]),(1,true,.box 70 [.sl 110 tTok]),(2,true,.box 32 [.str,.str,.str,.int .i64,.int .i64,.ref 3,.ref 4,.bool,.ref 5]),(3,false,.arr 53 tNode),(4,false,.arr 3 (.int .i64)),(5,false,.arr 78 tAgg)],[2],6,[]⟩) .n .n))))))))
noncomputable def ddl_parser_view.B : (List tTokT) × Unit → Option ((ByteArray × ByteArray × ByteArray × Int × Int × Bool × (List tTokT) × (List tNodeT) × (List Int) × (List tAggT) × Unit) ⊕ Int) := fun (o0,_) =>
 Option.bind (ddl_parser_name.F (o0,())) fun zy1 => match zy1 with
 | .inl y1 =>
 (Option.bind (ddl_parser_take.F ([(⟨#[102,114,111,109]⟩ : ByteArray)],y1.2.1,())) fun y2 =>
 Option.bind (ddl_need.F (y2.1,())) fun zy3 => match zy3 with
 | .inl y3 =>
 (Option.bind (ddl_parser_name.F (y2.2.1,())) fun zy4 => match zy4 with
 | .inl y4 =>
 (Option.bind (
 Option.bind (ddl_parser_take.F ([(⟨#[106,111,105,110]⟩ : ByteArray)],y4.2.1,())) fun y5 =>
 (bif y5.1 then
 Option.bind (ddl_parser_name.F (y5.2.1,())) fun zy6 => match zy6 with
 | .inl y6 =>
 (Option.bind (ddl_parser_take.F ([(⟨#[111,110]⟩ : ByteArray)],y6.2.1,())) fun y7 =>
 Option.bind (ddl_need.F (y7.1,())) fun zy8 => match zy8 with
 | .inl y8 =>
 (Option.bind (ddl_parser_col.F (y7.2.1,())) fun zy9 => match zy9 with
 | .inl y9 =>
 (bif (decide (0 ≤ (0 : Int)) && decide ((0 : Int) < (2 : Int))) then
 Option.bind (ddl_parser_take.F ([(⟨#[61]⟩ : ByteArray)],y9.2.1,())) fun y10 =>
 Option.bind (ddl_need.F (y10.1,())) fun zy11 => match zy11 with
 | .inl y11 =>
 (Option.bind (ddl_parser_col.F (y10.2.1,())) fun zy12 => match zy12 with
 | .inl y12 =>
 (bif (decide (0 ≤ (1 : Int)) && decide ((1 : Int) < (2 : Int))) then
 some (.inl (y12.2.1,y1.1,y4.1,y6.1,y9.1,y12.1,false,[],[],[],()))
 else none)
 | .inr n13 => some (.inr (.inr n13)))
 | .inr n14 => some (.inr (.inr n14))
 else none)
 | .inr n15 => some (.inr (.inr n15)))
 | .inr n16 => some (.inr (.inr n16)))
 | .inr n17 => some (.inr (.inr n17))
 else
 some (.inl (y5.2.1,y1.1,y4.1,(⟨#[]⟩ : ByteArray),(0 : Int),(0 : Int),false,[],[],[],()))) : Option (((List tTokT) × ByteArray × ByteArray × ByteArray × Int × Int × Bool × (List tNodeT) × (List Int) × (List tAggT) × Unit) ⊕ _)) fun r18 => match r18 with
 | .inl (o1_0_0_18,o3_0_0_18,o3_0_1_18,o3_0_2_18,o3_0_3_18,o3_0_4_18,o3_0_7_18,o3_0_5_18,o3_0_6_18,o3_0_8_18,_) =>
 (Option.bind (
 Option.bind (ddl_parser_take.F ([(⟨#[119,104,101,114,101]⟩ : ByteArray)],o1_0_0_18,())) fun y19 =>
 (bif y19.1 then
 Option.bind (ddl_parser_expr.F (y19.2.1,())) fun zy20 => match zy20 with
 | .inl y20 =>
 (some (.inl (y20.1,o3_0_0_18,o3_0_1_18,o3_0_2_18,o3_0_3_18,o3_0_4_18,o3_0_7_18,y20.2.1,o3_0_6_18,o3_0_8_18,())))
 | .inr n21 => some (.inr (.inr n21))
 else
 some (.inl (y19.2.1,o3_0_0_18,o3_0_1_18,o3_0_2_18,o3_0_3_18,o3_0_4_18,o3_0_7_18,o3_0_5_18,o3_0_6_18,o3_0_8_18,()))) : Option (((List tTokT) × ByteArray × ByteArray × ByteArray × Int × Int × Bool × (List tNodeT) × (List Int) × (List tAggT) × Unit) ⊕ _)) fun r22 => match r22 with
 | .inl (o1_0_0_22,o3_0_0_22,o3_0_1_22,o3_0_2_22,o3_0_3_22,o3_0_4_22,o3_0_7_22,o3_0_5_22,o3_0_6_22,o3_0_8_22,_) =>
 (Option.bind (ddl_parser_take.F ([(⟨#[112,105,99,107]⟩ : ByteArray)],o1_0_0_22,())) fun y23 =>
 Option.bind (ddl_need.F (y23.1,())) fun zy24 => match zy24 with
 | .inl y24 =>
 (Option.bind (
 (bif (decide ((y23.2.1.length : Int) > (0 : Int))) then
 Option.bind (ddl_parser_is.F ([(⟨#[103,114,111,117,112]⟩ : ByteArray)],y23.2.1,())) fun y25 =>
 (bif (!y25.1) then
 Option.bind (
 agreeL [agreeL [agreeL [agreeL [Option.bind (ddl_parser_col.F (y25.2.1,())) fun zy26 => match zy26 with
 | .inl y26 =>
 (agreeL [agreeL [bif (Nat.ble (o3_0_6_22.length + [y26.1].length) 17592186044416) then
 agreeL [agreeL [some (.inl (o3_0_0_22,o3_0_1_22,o3_0_2_22,o3_0_3_22,o3_0_4_22,o3_0_7_22,o3_0_5_22,(o3_0_6_22 ++ [y26.1]),o3_0_8_22,y26.2.1,()))]]
 else none]])
 | .inr n27 => some (.inr (.inr (.inr n27)))]],
 agreeL [agreeL [Option.bind (ddl_parser_col.F (y25.2.1,())) fun zy26 => match zy26 with
 | .inl y26 =>
 (agreeL [agreeL [bif (Nat.ble (o3_0_6_22.length + [y26.1].length) 17592186044416) then
 agreeL [agreeL [some (.inl (o3_0_0_22,o3_0_1_22,o3_0_2_22,o3_0_3_22,o3_0_4_22,o3_0_7_22,o3_0_5_22,(o3_0_6_22 ++ [y26.1]),o3_0_8_22,y26.2.1,()))]]
 else none]])
 | .inr n27 => some (.inr (.inr (.inr n27)))],
 Option.bind (ddl_parser_col.F (y25.2.1,())) fun zy26 => match zy26 with
 | .inl y26 =>
 ((fun z => agreeL [agreeL [agreeL [z]],agreeL [agreeL [z]]]) (bif (Nat.ble (o3_0_6_22.length + [y26.1].length) 17592186044416) then
 agreeL [agreeL [some (.inl (o3_0_0_22,o3_0_1_22,o3_0_2_22,o3_0_3_22,o3_0_4_22,o3_0_7_22,o3_0_5_22,(o3_0_6_22 ++ [y26.1]),o3_0_8_22,y26.2.1,()))]]
 else none))
 | .inr n27 => some (.inr (.inr (.inr n27)))]],
 agreeL [agreeL [agreeL [Option.bind (ddl_parser_col.F (y25.2.1,())) fun zy26 => match zy26 with
 | .inl y26 =>
 (agreeL [agreeL [bif (Nat.ble (o3_0_6_22.length + [y26.1].length) 17592186044416) then
 agreeL [agreeL [some (.inl (o3_0_0_22,o3_0_1_22,o3_0_2_22,o3_0_3_22,o3_0_4_22,o3_0_7_22,o3_0_5_22,(o3_0_6_22 ++ [y26.1]),o3_0_8_22,y26.2.1,()))]]
 else none]])
 | .inr n27 => some (.inr (.inr (.inr n27)))],
 Option.bind (ddl_parser_col.F (y25.2.1,())) fun zy26 => match zy26 with
 | .inl y26 =>
 ((fun z => agreeL [agreeL [agreeL [z]],agreeL [agreeL [z]]]) (bif (Nat.ble (o3_0_6_22.length + [y26.1].length) 17592186044416) then
 agreeL [agreeL [some (.inl (o3_0_0_22,o3_0_1_22,o3_0_2_22,o3_0_3_22,o3_0_4_22,o3_0_7_22,o3_0_5_22,(o3_0_6_22 ++ [y26.1]),o3_0_8_22,y26.2.1,()))]]
 else none))
 | .inr n27 => some (.inr (.inr (.inr n27)))],
 Option.bind (ddl_parser_col.F (y25.2.1,())) fun zy26 => match zy26 with
 | .inl y26 =>
 ((fun z => agreeL [agreeL [agreeL [agreeL [z]],agreeL [agreeL [z]]],agreeL [agreeL [agreeL [z]]]]) (bif (Nat.ble (o3_0_6_22.length + [y26.1].length) 17592186044416) then
 agreeL [agreeL [some (.inl (o3_0_0_22,o3_0_1_22,o3_0_2_22,o3_0_3_22,o3_0_4_22,o3_0_7_22,o3_0_5_22,(o3_0_6_22 ++ [y26.1]),o3_0_8_22,y26.2.1,()))]]
 else none))
 | .inr n27 => some (.inr (.inr (.inr n27)))]] : Option ((ByteArray × ByteArray × ByteArray × Int × Int × Bool × (List tNodeT) × (List Int) × (List tAggT) × (List tTokT) × Unit) ⊕ _)) fun r28 => match r28 with
 | .inl (ok_1_0_0_28,ok_1_0_1_28,ok_1_0_2_28,ok_1_0_3_28,ok_1_0_4_28,ok_1_0_7_28,ok_1_0_5_28,ok_1_0_6_28,ok_1_0_8_28,o0_0_28,_) =>
 (loopM (S := Int × ByteArray × ByteArray × ByteArray × Int × Int × Bool × (List tNodeT) × (List Int) × (List tAggT) × (List tTokT) × Unit) (fun (x4,ok_1_0_0,ok_1_0_1,ok_1_0_2,ok_1_0_3,ok_1_0_4,ok_1_0_7,ok_1_0_5,ok_1_0_6,ok_1_0_8,o0_0,_) =>
 Option.bind (ddl_parser_take.F ([(⟨#[44]⟩ : ByteArray)],o0_0,())) fun y29 =>
 (bif y29.1 then
 let e30 : Int := (IntKind.i64.wrap (x4 + (1 : Int)))
 Option.bind (ddl_need.F ((decide (e30 ≤ (40 : Int))),())) fun zy31 => match zy31 with
 | .inl y31 =>
 (agreeL [agreeL [agreeL [agreeL [Option.bind (ddl_parser_col.F (y29.2.1,())) fun zy32 => match zy32 with
 | .inl y32 =>
 (agreeL [agreeL [bif (Nat.ble (ok_1_0_6.length + [y32.1].length) 17592186044416) then
 agreeL [agreeL [some (.inl (e30,ok_1_0_0,ok_1_0_1,ok_1_0_2,ok_1_0_3,ok_1_0_4,ok_1_0_7,ok_1_0_5,(ok_1_0_6 ++ [y32.1]),ok_1_0_8,y32.2.1,()))]]
 else none]])
 | .inr n33 => some (.inr (.inr (.inr n33)))]],
 agreeL [agreeL [Option.bind (ddl_parser_col.F (y29.2.1,())) fun zy32 => match zy32 with
 | .inl y32 =>
 (agreeL [agreeL [bif (Nat.ble (ok_1_0_6.length + [y32.1].length) 17592186044416) then
 agreeL [agreeL [some (.inl (e30,ok_1_0_0,ok_1_0_1,ok_1_0_2,ok_1_0_3,ok_1_0_4,ok_1_0_7,ok_1_0_5,(ok_1_0_6 ++ [y32.1]),ok_1_0_8,y32.2.1,()))]]
 else none]])
 | .inr n33 => some (.inr (.inr (.inr n33)))],
 Option.bind (ddl_parser_col.F (y29.2.1,())) fun zy32 => match zy32 with
 | .inl y32 =>
 ((fun z => agreeL [agreeL [agreeL [z]],agreeL [agreeL [z]]]) (bif (Nat.ble (ok_1_0_6.length + [y32.1].length) 17592186044416) then
 agreeL [agreeL [some (.inl (e30,ok_1_0_0,ok_1_0_1,ok_1_0_2,ok_1_0_3,ok_1_0_4,ok_1_0_7,ok_1_0_5,(ok_1_0_6 ++ [y32.1]),ok_1_0_8,y32.2.1,()))]]
 else none))
 | .inr n33 => some (.inr (.inr (.inr n33)))]],
 agreeL [agreeL [agreeL [Option.bind (ddl_parser_col.F (y29.2.1,())) fun zy32 => match zy32 with
 | .inl y32 =>
 (agreeL [agreeL [bif (Nat.ble (ok_1_0_6.length + [y32.1].length) 17592186044416) then
 agreeL [agreeL [some (.inl (e30,ok_1_0_0,ok_1_0_1,ok_1_0_2,ok_1_0_3,ok_1_0_4,ok_1_0_7,ok_1_0_5,(ok_1_0_6 ++ [y32.1]),ok_1_0_8,y32.2.1,()))]]
 else none]])
 | .inr n33 => some (.inr (.inr (.inr n33)))],
 Option.bind (ddl_parser_col.F (y29.2.1,())) fun zy32 => match zy32 with
 | .inl y32 =>
 ((fun z => agreeL [agreeL [agreeL [z]],agreeL [agreeL [z]]]) (bif (Nat.ble (ok_1_0_6.length + [y32.1].length) 17592186044416) then
 agreeL [agreeL [some (.inl (e30,ok_1_0_0,ok_1_0_1,ok_1_0_2,ok_1_0_3,ok_1_0_4,ok_1_0_7,ok_1_0_5,(ok_1_0_6 ++ [y32.1]),ok_1_0_8,y32.2.1,()))]]
 else none))
 | .inr n33 => some (.inr (.inr (.inr n33)))],
 Option.bind (ddl_parser_col.F (y29.2.1,())) fun zy32 => match zy32 with
 | .inl y32 =>
 ((fun z => agreeL [agreeL [agreeL [agreeL [z]],agreeL [agreeL [z]]],agreeL [agreeL [agreeL [z]]]]) (bif (Nat.ble (ok_1_0_6.length + [y32.1].length) 17592186044416) then
 agreeL [agreeL [some (.inl (e30,ok_1_0_0,ok_1_0_1,ok_1_0_2,ok_1_0_3,ok_1_0_4,ok_1_0_7,ok_1_0_5,(ok_1_0_6 ++ [y32.1]),ok_1_0_8,y32.2.1,()))]]
 else none))
 | .inr n33 => some (.inr (.inr (.inr n33)))]])
 | .inr n34 => some (.inr (.inr (.inr n34)))
 else
 some (.inr (.inl (y29.2.1,ok_1_0_0,ok_1_0_1,ok_1_0_2,ok_1_0_3,ok_1_0_4,ok_1_0_7,ok_1_0_5,ok_1_0_6,ok_1_0_8,()))))) ((1 : Int),ok_1_0_0_28,ok_1_0_1_28,ok_1_0_2_28,ok_1_0_3_28,ok_1_0_4_28,ok_1_0_7_28,ok_1_0_5_28,ok_1_0_6_28,ok_1_0_8_28,o0_0_28,()))
 | .inr r => some r
 else
 some (.inl (y25.2.1,o3_0_0_22,o3_0_1_22,o3_0_2_22,o3_0_3_22,o3_0_4_22,o3_0_7_22,o3_0_5_22,o3_0_6_22,o3_0_8_22,())))
 else
 some (.inl (y23.2.1,o3_0_0_22,o3_0_1_22,o3_0_2_22,o3_0_3_22,o3_0_4_22,o3_0_7_22,o3_0_5_22,o3_0_6_22,o3_0_8_22,()))) : Option (((List tTokT) × ByteArray × ByteArray × ByteArray × Int × Int × Bool × (List tNodeT) × (List Int) × (List tAggT) × Unit) ⊕ _)) fun r35 => match r35 with
 | .inl (o1_0_0_35,o3_0_0_35,o3_0_1_35,o3_0_2_35,o3_0_3_35,o3_0_4_35,o3_0_7_35,o3_0_5_35,o3_0_6_35,o3_0_8_35,_) =>
 (Option.bind (ddl_parser_take.F ([(⟨#[103,114,111,117,112]⟩ : ByteArray)],o1_0_0_35,())) fun y36 =>
 (bif y36.1 then
 (bif (decide ((y36.2.1.length : Int) > (0 : Int))) then
 Option.bind (
 Option.bind (ddl_parser_one.F ([(⟨#[99,111,117,110,116]⟩ : ByteArray),(⟨#[115,117,109]⟩ : ByteArray),(⟨#[109,105,110]⟩ : ByteArray),(⟨#[109,97,120]⟩ : ByteArray)],y36.2.1,())) fun zy37 => match zy37 with
 | .inl y37 =>
 ((bif (y37.1 != (0 : Int)) then
 Option.bind (ddl_parser_col.F (y37.2.1,())) fun zy38 => match zy38 with
 | .inl y38 =>
 (bif (Nat.ble (o3_0_8_35.length + [(y37.1,y38.1)].length) 8796093022208) then
 some (.inl (o3_0_0_35,o3_0_1_35,o3_0_2_35,o3_0_3_35,o3_0_4_35,y36.1,o3_0_5_35,o3_0_6_35,(o3_0_8_35 ++ [(y37.1,y38.1)]),y38.2.1,()))
 else none)
 | .inr n39 => some (.inr (.inr n39))
 else
 bif (Nat.ble (o3_0_8_35.length + [(y37.1,(0 : Int))].length) 8796093022208) then
 some (.inl (o3_0_0_35,o3_0_1_35,o3_0_2_35,o3_0_3_35,o3_0_4_35,y36.1,o3_0_5_35,o3_0_6_35,(o3_0_8_35 ++ [(y37.1,(0 : Int))]),y37.2.1,()))
 else none))
 | .inr n40 => some (.inr (.inr n40)) : Option ((ByteArray × ByteArray × ByteArray × Int × Int × Bool × (List tNodeT) × (List Int) × (List tAggT) × (List tTokT) × Unit) ⊕ _)) fun r41 => match r41 with
 | .inl (ok_1_1_0_41,ok_1_1_1_41,ok_1_1_2_41,ok_1_1_3_41,ok_1_1_4_41,ok_1_1_7_41,ok_1_1_5_41,ok_1_1_6_41,ok_1_1_8_41,o0_0_41,_) =>
 (loopM (S := Int × ByteArray × ByteArray × ByteArray × Int × Int × Bool × (List tNodeT) × (List Int) × (List tAggT) × (List tTokT) × Unit) (fun (x4,ok_1_1_0,ok_1_1_1,ok_1_1_2,ok_1_1_3,ok_1_1_4,ok_1_1_7,ok_1_1_5,ok_1_1_6,ok_1_1_8,o0_0,_) =>
 Option.bind (ddl_parser_take.F ([(⟨#[44]⟩ : ByteArray)],o0_0,())) fun y42 =>
 (bif y42.1 then
 let e43 : Int := (IntKind.i64.wrap (x4 + (1 : Int)))
 Option.bind (ddl_need.F ((decide (e43 ≤ (40 : Int))),())) fun zy44 => match zy44 with
 | .inl y44 =>
 (Option.bind (ddl_parser_one.F ([(⟨#[99,111,117,110,116]⟩ : ByteArray),(⟨#[115,117,109]⟩ : ByteArray),(⟨#[109,105,110]⟩ : ByteArray),(⟨#[109,97,120]⟩ : ByteArray)],y42.2.1,())) fun zy45 => match zy45 with
 | .inl y45 =>
 ((bif (y45.1 != (0 : Int)) then
 Option.bind (ddl_parser_col.F (y45.2.1,())) fun zy46 => match zy46 with
 | .inl y46 =>
 (bif (Nat.ble (ok_1_1_8.length + [(y45.1,y46.1)].length) 8796093022208) then
 some (.inl (e43,ok_1_1_0,ok_1_1_1,ok_1_1_2,ok_1_1_3,ok_1_1_4,ok_1_1_7,ok_1_1_5,ok_1_1_6,(ok_1_1_8 ++ [(y45.1,y46.1)]),y46.2.1,()))
 else none)
 | .inr n47 => some (.inr (.inr n47))
 else
 bif (Nat.ble (ok_1_1_8.length + [(y45.1,(0 : Int))].length) 8796093022208) then
 some (.inl (e43,ok_1_1_0,ok_1_1_1,ok_1_1_2,ok_1_1_3,ok_1_1_4,ok_1_1_7,ok_1_1_5,ok_1_1_6,(ok_1_1_8 ++ [(y45.1,(0 : Int))]),y45.2.1,()))
 else none))
 | .inr n48 => some (.inr (.inr n48)))
 | .inr n49 => some (.inr (.inr n49))
 else
 some (.inr (.inl (ok_1_1_0,ok_1_1_1,ok_1_1_2,ok_1_1_3,ok_1_1_4,ok_1_1_7,y42.2.1,ok_1_1_5,ok_1_1_6,ok_1_1_8,()))))) ((1 : Int),ok_1_1_0_41,ok_1_1_1_41,ok_1_1_2_41,ok_1_1_3_41,ok_1_1_4_41,ok_1_1_7_41,ok_1_1_5_41,ok_1_1_6_41,ok_1_1_8_41,o0_0_41,()))
 | .inr r => some r
 else
 some (.inl (o3_0_0_35,o3_0_1_35,o3_0_2_35,o3_0_3_35,o3_0_4_35,y36.1,y36.2.1,o3_0_5_35,o3_0_6_35,o3_0_8_35,())))
 else
 some (.inl (o3_0_0_35,o3_0_1_35,o3_0_2_35,o3_0_3_35,o3_0_4_35,y36.1,y36.2.1,o3_0_5_35,o3_0_6_35,o3_0_8_35,()))))
 | .inr r => some r)
 | .inr n50 => some (.inr n50))
 | .inr r => some r)
 | .inr r => some r)
 | .inr n51 => some (.inr n51))
 | .inr n52 => some (.inr n52))
 | .inr n53 => some (.inr n53)
noncomputable def ddl_parser_view.F := stk ddl_parser_view.B
theorem ddl_parser_view.eq : ddl_parser_view.F = ddl_parser_view.B := stk_eq _
noncomputable def ddl_parser_view.ins : Nat → List (Option Slot) → Heap → Option (Code × List ResultVar × H) := fun g xs hp => bif Nat.beq g 65 && cloK xs hp 1 71 then some (Tryz.f65.body.getD .skip,Tryz.f65.results.toList,(.s none .n (.s (some ⟨[(0,.v false [.ptr 4 0])],[(0,true,.box 32 [.str,.str,.str,.int .i64,.int .i64,.ref 1,.ref 2,.bool,.ref 3]),(1,false,.arr 53 tNode),(2,false,.arr 3 (.int .i64)),(3,false,.arr 78 tAgg),(4,true,.box 70 [.sl 110 tTok])],[1,4],5,[(0,1003)]⟩) .n (.b (.l ⟨[(0,.v false [.ptr 4 0]),(4,.v false [.int .i64])],[(0,true,.box 32 [.str,.str,.str,.int .i64,.int .i64,.ref 1,.ref 2,.bool,.ref 3]),(1,false,.arr 53 tNode),(2,false,.arr 3 (.int .i64)),(3,false,.arr 78 tAgg),(4,true,.box 70 [.sl 110 tTok])],[1],5,[(0,1003)]⟩ .n))))) else bif Nat.beq g 65 && cloK xs hp 1 72 then some (Tryz.f65.body.getD .skip,Tryz.f65.results.toList,(.s none .n (.s (some ⟨[(0,.v false [.ptr 4 0])],[(0,true,.box 32 [.str,.str,.str,.int .i64,.int .i64,.ref 1,.ref 2,.bool,.ref 3]),(1,false,.arr 53 tNode),(2,false,.arr 3 (.int .i64)),(3,false,.arr 78 tAgg),(4,true,.box 70 [.sl 110 tTok])],[1,4],5,[(0,1003)]⟩) .n (.b (.l ⟨[(0,.v false [.ptr 4 0]),(4,.v false [.int .i64])],[(0,true,.box 32 [.str,.str,.str,.int .i64,.int .i64,.ref 1,.ref 2,.bool,.ref 3]),(1,false,.arr 53 tNode),(2,false,.arr 3 (.int .i64)),(3,false,.arr 78 tAgg),(4,true,.box 70 [.sl 110 tTok])],[1],5,[(0,1003)]⟩ .n))))) else bif Nat.beq g 71 then some (Tryz.f71.body.getD .skip,Tryz.f71.results.toList,.d) else bif Nat.beq g 72 then some (Tryz.f72.body.getD .skip,Tryz.f72.results.toList,.n) else  none
theorem ddl_parser_view.ins_ok : ∀ n xs hp code res h,ddl_parser_view.ins n xs hp = some (code,res,h) → ∃ nt,FnOk PP n code res nt := by
 intro n xs hp code res h e
 unfold ddl_parser_view.ins at e
 cases e0 : (Nat.beq n 65 && cloK xs hp 1 71) with
 | true => rw [e0] at e; cases e; rw [Nat.eq_of_beq_eq_true (Bool.and_eq_true_iff.1 e0).1]; exact ⟨_,fnOk_mk (by kernel_rfl) (by kernel_rfl) (by kernel_rfl) (by kernel_rfl)⟩
 | false =>
 rw [e0] at e
 cases e1 : (Nat.beq n 65 && cloK xs hp 1 72) with
 | true => rw [e1] at e; cases e; rw [Nat.eq_of_beq_eq_true (Bool.and_eq_true_iff.1 e1).1]; exact ⟨_,fnOk_mk (by kernel_rfl) (by kernel_rfl) (by kernel_rfl) (by kernel_rfl)⟩
 | false =>
 rw [e1] at e
 cases e2 : (Nat.beq n 71) with
 | true => rw [e2] at e; cases e; rw [Nat.eq_of_beq_eq_true e2]; exact ⟨_,fnOk_mk (by kernel_rfl) (by kernel_rfl) (by kernel_rfl) (by kernel_rfl)⟩
 | false =>
 rw [e2] at e
 cases e3 : (Nat.beq n 72) with
 | true => rw [e3] at e; cases e; rw [Nat.eq_of_beq_eq_true e3]; exact ⟨_,fnOk_mk (by kernel_rfl) (by kernel_rfl) (by kernel_rfl) (by kernel_rfl)⟩
 | false =>
 rw [e3] at e
 cases e
theorem ddl_parser_view.ev (x : TS ddl_parser_view.si) : evFP cddl_parser_col (inlS cddl_parser_col ddl_parser_view.ins (inlS cddl_parser_col ddl_parser_view.ins (inlS cddl_parser_col ddl_parser_view.ins inl0))) (Tryz.f30.body.getD .skip) Tryz.f30.results.toList ddl_parser_view.h ddl_parser_view.si ddl_parser_view.so x = ddl_parser_view.B x := by kernel_rfl
theorem ddl_parser_view.fn : FnOk PP 30 (Tryz.f30.body.getD .skip) Tryz.f30.results.toList Tryz.f30.ntmps := fnOk_mk (by kernel_rfl) (by kernel_rfl) (by kernel_rfl) (by kernel_rfl)
theorem ddl_parser_view.ok : SpecPOk PP 30 67 ⟨1,ddl_parser_view.si,ddl_parser_view.so,ddl_parser_view.F⟩ := fnP_stk cxddl_parser_col (inlS_ok cxddl_parser_col (inlS_ok cxddl_parser_col (inlS_ok cxddl_parser_col (inl0_ok _ _) (drawnOk cxddl_parser_col mixed) ddl_parser_view.ins_ok) (drawnOk cxddl_parser_col mixed) ddl_parser_view.ins_ok) (drawnOk cxddl_parser_col mixed) ddl_parser_view.ins_ok) mixed ddl_parser_view.fn ddl_parser_view.h (by kernel_rfl) ddl_parser_view.ev
noncomputable def sqddl_parser_view : List (Nat × List (Nat × AK) × Lv.SpecP) := (30,[],⟨1,ddl_parser_view.si,ddl_parser_view.so,ddl_parser_view.F⟩) :: sqddl_parser_col
noncomputable abbrev cddl_parser_view : Cx := ⟨tabAt tab0,eqAt eqs0,specAt spddl_column,67,specPAt sqddl_parser_view⟩
theorem cxddl_parser_view : CxOk PP cddl_parser_view := cxddl_parser_col.consP [] ddl_parser_view.fn.enters ddl_parser_view.ok
def ddl_Parse.si : Sh := ⟨[(0,.v false [.str])],[],[],0,[]⟩
def ddl_Parse.so : Sh := ⟨[(0,.tup [(true,[.int .i64,.str,.ref 1000,.ref 1001,.str,.str,.str,.int .i64,.int .i64,.ref 1002,.ref 1003,.bool,.ref 1004]),(false,[.int .i64])])],[(1000,false,.arr 49 tColumn),(1001,false,.arr 28 (.sl 53 tNode)),(1002,false,.arr 53 tNode),(1003,false,.arr 3 (.int .i64)),(1004,false,.arr 78 tAgg)],[],1005,[]⟩
noncomputable def ddl_Parse.B : ByteArray × Unit → Option (Int × ByteArray × ByteArray × ByteArray × ByteArray × Int × Int × Bool × Int × (List tColumnT) × (List (List tNodeT)) × (List tNodeT) × (List Int) × (List tAggT) × Unit) := fun (p0,_) =>
 Option.bind (lex_Lex.F (p0,())) fun y1 =>
 (bif (y1.1 != (0 : Int)) then
 some ((0 : Int),(⟨#[]⟩ : ByteArray),(⟨#[]⟩ : ByteArray),(⟨#[]⟩ : ByteArray),(⟨#[]⟩ : ByteArray),(0 : Int),(0 : Int),false,y1.1,[],[],[],[],[],())
 else
 Option.bind (ddl_parser_one.F ([(⟨#[116,97,98,108,101]⟩ : ByteArray),(⟨#[118,105,101,119]⟩ : ByteArray)],y1.2.1,())) fun zy2 => match zy2 with
 | .inl y2 =>
 ((bif (y2.1 == (0 : Int)) then
 Option.bind (ddl_parser_table.F (y2.2.1,())) fun zy3 => match zy3 with
 | .inl y3 =>
 (Option.bind (ddl_need.F (((y3.2.1.length : Int) == (0 : Int)),())) fun zy4 => match zy4 with
 | .inl y4 =>
 (some (y2.1,y3.1,(⟨#[]⟩ : ByteArray),(⟨#[]⟩ : ByteArray),(⟨#[]⟩ : ByteArray),(0 : Int),(0 : Int),false,(0 : Int),y3.2.2.1,y3.2.2.2.1,[],[],[],()))
 | .inr n5 => some ((0 : Int),(⟨#[]⟩ : ByteArray),(⟨#[]⟩ : ByteArray),(⟨#[]⟩ : ByteArray),(⟨#[]⟩ : ByteArray),(0 : Int),(0 : Int),false,n5,[],[],[],[],[],()))
 | .inr n6 => some ((0 : Int),(⟨#[]⟩ : ByteArray),(⟨#[]⟩ : ByteArray),(⟨#[]⟩ : ByteArray),(⟨#[]⟩ : ByteArray),(0 : Int),(0 : Int),false,n6,[],[],[],[],[],())
 else
 Option.bind (ddl_parser_view.F (y2.2.1,())) fun zy7 => match zy7 with
 | .inl y7 =>
 (Option.bind (ddl_need.F (((y7.2.2.2.2.2.2.1.length : Int) == (0 : Int)),())) fun zy8 => match zy8 with
 | .inl y8 =>
 (some (y2.1,(⟨#[]⟩ : ByteArray),y7.1,y7.2.1,y7.2.2.1,y7.2.2.2.1,y7.2.2.2.2.1,y7.2.2.2.2.2.1,(0 : Int),[],[],y7.2.2.2.2.2.2.2.1,y7.2.2.2.2.2.2.2.2.1,y7.2.2.2.2.2.2.2.2.2.1,()))
 | .inr n9 => some ((0 : Int),(⟨#[]⟩ : ByteArray),(⟨#[]⟩ : ByteArray),(⟨#[]⟩ : ByteArray),(⟨#[]⟩ : ByteArray),(0 : Int),(0 : Int),false,n9,[],[],[],[],[],()))
 | .inr n10 => some ((0 : Int),(⟨#[]⟩ : ByteArray),(⟨#[]⟩ : ByteArray),(⟨#[]⟩ : ByteArray),(⟨#[]⟩ : ByteArray),(0 : Int),(0 : Int),false,n10,[],[],[],[],[],())))
 | .inr n11 => some ((0 : Int),(⟨#[]⟩ : ByteArray),(⟨#[]⟩ : ByteArray),(⟨#[]⟩ : ByteArray),(⟨#[]⟩ : ByteArray),(0 : Int),(0 : Int),false,n11,[],[],[],[],[],()))
noncomputable def ddl_Parse.F := stk ddl_Parse.B
theorem ddl_Parse.eq : ddl_Parse.F = ddl_Parse.B := stk_eq _
noncomputable def ddl_Parse.pre : List (Code × H) := [(lC (Tryz.f13.body.getD .skip),.n),(lC (rC' (Tryz.f13.body.getD .skip)),.n),(lC (rC' (rC' (Tryz.f13.body.getD .skip))),.n)]
noncomputable def ddl_Parse.E : Code := (rC' (rC' (rC' (rC' (Tryz.f13.body.getD .skip)))))
noncomputable def ddl_Parse.G : Code := (rC' (Tryz.f27.body.getD .skip))
def ddl_Parse.hE : H := .n
def ddl_Parse.hG : H := .n
theorem ddl_Parse.ev (x : TS ddl_Parse.si) : evDef cddl_parser_view inl0 ddl_Parse.pre ddl_Parse.E ddl_Parse.hE ddl_Parse.G ddl_Parse.hG 2 3 15 5 Tryz.f13.results.toList ddl_Parse.si ddl_Parse.so x = ddl_Parse.B x := by kernel_rfl
theorem ddl_Parse.en : Lv.Enters PP 13 := ⟨_,Tryz.func13,by kernel_rfl,by decide⟩
theorem ddl_Parse.ok : SpecOk PP 13 ⟨1,ddl_Parse.si,ddl_Parse.so,ddl_Parse.F⟩ :=
 def_stk (pre := ddl_Parse.pre) (i := 4) (om := opC (lC (rC' (rC' (rC' (Tryz.f13.body.getD .skip))))) 0) (od := opC (lC (rC' (rC' (rC' (Tryz.f13.body.getD .skip))))) 1) (E := ddl_Parse.E) (f := 27) (p := 2) (q := 3) (t := 15) (ir := 0) (tr := 5) (or := opC (lC (Tryz.f27.body.getD .skip)) 0) (G := ddl_Parse.G) cxddl_parser_view (inl0_ok _ _) mixed Tryz.func13 (by kernel_rfl) ⟨by kernel_rfl,by kernel_rfl,by kernel_rfl,by kernel_rfl,by kernel_rfl,by kernel_rfl⟩ Tryz.func27 (by kernel_rfl) (by kernel_rfl) ⟨⟨#[],by kernel_rfl⟩,by kernel_rfl,by kernel_rfl⟩ (by kernel_rfl) (by kernel_rfl) (by kernel_rfl) (by kernel_rfl) ddl_Parse.hE ddl_Parse.hG (by kernel_rfl) ddl_Parse.ev
noncomputable def spddl_Parse : List (Nat × List (Nat × AK) × Lv.Spec) := (13,[],⟨1,ddl_Parse.si,ddl_Parse.so,ddl_Parse.F⟩) :: spddl_column
noncomputable abbrev cddl_Parse : Cx := ⟨tabAt tab0,eqAt eqs0,specAt spddl_Parse,67,specPAt sqddl_parser_view⟩
theorem cxddl_Parse : CxOk PP cddl_Parse := cxddl_parser_view.consS [] ddl_Parse.en ddl_Parse.ok
def ddl_printer_add.si : Sh := ⟨[(0,.v false [.ptr 0 0]),(1,.v false [.sl 9 .str])],[(0,true,.box 57 [.ref 1]),(1,true,.arr 9 .str)],[],2,[]⟩
def ddl_printer_add.so : Sh := ⟨[(0,.tup [])],[(0,true,.box 57 [.ref 1001]),(1001,false,.arr 9 .str)],[],1002,[(0,0)]⟩
def ddl_printer_add.h : H := .n
noncomputable def ddl_printer_add.B : (List ByteArray) × (List ByteArray) × Unit → Option ((List ByteArray) × Unit) := fun (p1,o0_0,_) =>
 bif (Nat.ble (o0_0.length + p1.length) 8796093022208) then
 some ((o0_0 ++ p1),())
 else none
noncomputable def ddl_printer_add.F := stk ddl_printer_add.B
theorem ddl_printer_add.eq : ddl_printer_add.F = ddl_printer_add.B := stk_eq _
theorem ddl_printer_add.ev (x : TS ddl_printer_add.si) : evF cddl_Parse inl0 (Tryz.f36.body.getD .skip) Tryz.f36.results.toList ddl_printer_add.h ddl_printer_add.si ddl_printer_add.so x = ddl_printer_add.B x := by kernel_rfl
theorem ddl_printer_add.fn : FnOk PP 36 (Tryz.f36.body.getD .skip) Tryz.f36.results.toList Tryz.f36.ntmps := fnOk_mk (by kernel_rfl) (by kernel_rfl) (by kernel_rfl) (by kernel_rfl)
theorem ddl_printer_add.ok : SpecOk PP 36 ⟨2,ddl_printer_add.si,ddl_printer_add.so,ddl_printer_add.F⟩ := fn_stk cxddl_Parse (inl0_ok _ _) mixed ddl_printer_add.fn ddl_printer_add.h (by kernel_rfl) ddl_printer_add.ev
noncomputable def spddl_printer_add : List (Nat × List (Nat × AK) × Lv.Spec) := (36,[],⟨2,ddl_printer_add.si,ddl_printer_add.so,ddl_printer_add.F⟩) :: spddl_Parse
noncomputable abbrev cddl_printer_add : Cx := ⟨tabAt tab0,eqAt eqs0,specAt spddl_printer_add,67,specPAt sqddl_parser_view⟩
theorem cxddl_printer_add : CxOk PP cddl_printer_add := cxddl_Parse.consS [] ddl_printer_add.fn.enters ddl_printer_add.ok
def ddl_word.si : Sh := ⟨[(0,.v false [.int .i64]),(1,.v false [.sl 9 .str])],[],[],0,[]⟩
def ddl_word.so : Sh := ⟨[(0,.v false [.str])],[],[],1000,[]⟩
def ddl_word.h : H := .n
noncomputable def ddl_word.B : Int × (List ByteArray) × Unit → Option (ByteArray × Unit) := fun (p0,p1,_) =>
 (bif (decide (p0 < (0 : Int))) then
 some ((⟨#[33]⟩ : ByteArray),())
 else
 (bif (decide (p0 ≥ (p1.length : Int))) then
 some ((⟨#[33]⟩ : ByteArray),())
 else
 bif (decide (0 ≤ p0) && decide (p0 < (p1.length : Int))) then
 let e1 : ByteArray := (List.getD p1 (Int.toNat p0) (⟨#[]⟩ : ByteArray))
 some (e1,())
 else none))
noncomputable def ddl_word.F := stk ddl_word.B
theorem ddl_word.eq : ddl_word.F = ddl_word.B := stk_eq _
theorem ddl_word.ev (x : TS ddl_word.si) : evF cddl_printer_add inl0 (Tryz.f39.body.getD .skip) Tryz.f39.results.toList ddl_word.h ddl_word.si ddl_word.so x = ddl_word.B x := by kernel_rfl
theorem ddl_word.fn : FnOk PP 39 (Tryz.f39.body.getD .skip) Tryz.f39.results.toList Tryz.f39.ntmps := fnOk_mk (by kernel_rfl) (by kernel_rfl) (by kernel_rfl) (by kernel_rfl)
theorem ddl_word.ok : SpecOk PP 39 ⟨2,ddl_word.si,ddl_word.so,ddl_word.F⟩ := fn_stk cxddl_printer_add (inl0_ok _ _) mixed ddl_word.fn ddl_word.h (by kernel_rfl) ddl_word.ev
noncomputable def spddl_word : List (Nat × List (Nat × AK) × Lv.Spec) := (39,[],⟨2,ddl_word.si,ddl_word.so,ddl_word.F⟩) :: spddl_printer_add
noncomputable abbrev cddl_word : Cx := ⟨tabAt tab0,eqAt eqs0,specAt spddl_word,67,specPAt sqddl_parser_view⟩
theorem cxddl_word : CxOk PP cddl_word := cxddl_printer_add.consS [] ddl_word.fn.enters ddl_word.ok
def ddl_printer_addIf.si : Sh := ⟨[(0,.v false [.ptr 0 0]),(1,.v false [.bool]),(2,.v false [.sl 9 .str])],[(0,true,.box 57 [.ref 1]),(1,true,.arr 9 .str)],[],2,[]⟩
def ddl_printer_addIf.so : Sh := ⟨[(0,.tup [])],[(0,true,.box 57 [.ref 1001]),(1001,false,.arr 9 .str)],[],1002,[(0,0)]⟩
def ddl_printer_addIf.h : H := .n
noncomputable def ddl_printer_addIf.B : Bool × (List ByteArray) × (List ByteArray) × Unit → Option ((List ByteArray) × Unit) := fun (p1,p2,o0_0,_) =>
 (bif p1 then
 Option.bind (ddl_printer_add.F (p2,o0_0,())) fun y1 =>
 some (y1.1,())
 else
 some (o0_0,()))
noncomputable def ddl_printer_addIf.F := stk ddl_printer_addIf.B
theorem ddl_printer_addIf.eq : ddl_printer_addIf.F = ddl_printer_addIf.B := stk_eq _
theorem ddl_printer_addIf.ev (x : TS ddl_printer_addIf.si) : evF cddl_word inl0 (Tryz.f40.body.getD .skip) Tryz.f40.results.toList ddl_printer_addIf.h ddl_printer_addIf.si ddl_printer_addIf.so x = ddl_printer_addIf.B x := by kernel_rfl
theorem ddl_printer_addIf.fn : FnOk PP 40 (Tryz.f40.body.getD .skip) Tryz.f40.results.toList Tryz.f40.ntmps := fnOk_mk (by kernel_rfl) (by kernel_rfl) (by kernel_rfl) (by kernel_rfl)
theorem ddl_printer_addIf.ok : SpecOk PP 40 ⟨3,ddl_printer_addIf.si,ddl_printer_addIf.so,ddl_printer_addIf.F⟩ := fn_stk cxddl_word (inl0_ok _ _) mixed ddl_printer_addIf.fn ddl_printer_addIf.h (by kernel_rfl) ddl_printer_addIf.ev
noncomputable def spddl_printer_addIf : List (Nat × List (Nat × AK) × Lv.Spec) := (40,[],⟨3,ddl_printer_addIf.si,ddl_printer_addIf.so,ddl_printer_addIf.F⟩) :: spddl_word
noncomputable abbrev cddl_printer_addIf : Cx := ⟨tabAt tab0,eqAt eqs0,specAt spddl_printer_addIf,67,specPAt sqddl_parser_view⟩
theorem cxddl_printer_addIf : CxOk PP cddl_printer_addIf := cxddl_word.consS [] ddl_printer_addIf.fn.enters ddl_printer_addIf.ok
def lex_May.si : Sh := ⟨[(0,.v true [.int .i64,.str,.int .i64,.int .i64,.str])],[],[],0,[]⟩
def lex_May.so : Sh := ⟨[(0,.v false [.bool])],[],[],1000,[]⟩
def lex_May.h : H := .n
noncomputable def lex_May.B : Int × ByteArray × Int × Int × ByteArray × Unit → Option (Bool × Unit) := fun (p0_0,p0_1,p0_2,p0_3,p0_4,_) =>
 (bif (p0_0 == (0 : Int)) then
 Option.bind (lex_Word.F (p0_1,())) fun y1 =>
 (bif y1.1 then
 some ((Ty.eq tValue (p0_2,(p0_3,p0_4)) ((0 : Int),((0 : Int),(⟨#[]⟩ : ByteArray)))),())
 else
 some (false,()))
 else
 (bif (p0_0 == (1 : Int)) then
 (bif (p0_1.toList == (⟨#[]⟩ : ByteArray).toList) then
 Option.bind (value_May.F (p0_2,p0_3,p0_4,())) fun y2 =>
 (bif y2.1 then
 some ((decide (p0_2 ≥ (2 : Int))),())
 else
 some (false,()))
 else
 some (false,()))
 else
 (bif (p0_0 == (2 : Int)) then
 (bif ((p0_1.size : Int) == (1 : Int)) then
 Option.bind (strings_Contains.F ((⟨#[40,41,91,93,44,61,60,43,45,42,63]⟩ : ByteArray),p0_1,())) fun y3 =>
 (bif y3.1 then
 some ((Ty.eq tValue (p0_2,(p0_3,p0_4)) ((0 : Int),((0 : Int),(⟨#[]⟩ : ByteArray)))),())
 else
 some (false,()))
 else
 some (false,()))
 else
 some (false,()))))
noncomputable def lex_May.F := stk lex_May.B
theorem lex_May.eq : lex_May.F = lex_May.B := stk_eq _
theorem lex_May.ev (x : TS lex_May.si) : evF cddl_printer_addIf inl0 (Tryz.f104.body.getD .skip) Tryz.f104.results.toList lex_May.h lex_May.si lex_May.so x = lex_May.B x := by kernel_rfl
theorem lex_May.fn : FnOk PP 104 (Tryz.f104.body.getD .skip) Tryz.f104.results.toList Tryz.f104.ntmps := fnOk_mk (by kernel_rfl) (by kernel_rfl) (by kernel_rfl) (by kernel_rfl)
theorem lex_May.ok : SpecOk PP 104 ⟨1,lex_May.si,lex_May.so,lex_May.F⟩ := fn_stk cxddl_printer_addIf (inl0_ok _ _) mixed lex_May.fn lex_May.h (by kernel_rfl) lex_May.ev
noncomputable def splex_May : List (Nat × List (Nat × AK) × Lv.Spec) := (104,[],⟨1,lex_May.si,lex_May.so,lex_May.F⟩) :: spddl_printer_addIf
noncomputable abbrev clex_May : Cx := ⟨tabAt tab0,eqAt eqs0,specAt splex_May,67,specPAt sqddl_parser_view⟩
theorem cxlex_May : CxOk PP clex_May := cxddl_printer_addIf.consS [] lex_May.fn.enters lex_May.ok
def internal_strconv_FormatBool.si : Sh := ⟨[(0,.v false [.bool])],[],[],0,[]⟩
def internal_strconv_FormatBool.so : Sh := ⟨[(0,.v false [.str])],[],[],1000,[]⟩
def internal_strconv_FormatBool.h : H := .n
noncomputable def internal_strconv_FormatBool.B : Bool × Unit → Option (ByteArray × Unit) := fun (p0,_) =>
 (bif p0 then
 some ((⟨#[116,114,117,101]⟩ : ByteArray),())
 else
 some ((⟨#[102,97,108,115,101]⟩ : ByteArray),()))
noncomputable def internal_strconv_FormatBool.F := stk internal_strconv_FormatBool.B
theorem internal_strconv_FormatBool.ev (x : TS internal_strconv_FormatBool.si) : evF clex_May inl0 (Tryz.f158.body.getD .skip) Tryz.f158.results.toList internal_strconv_FormatBool.h internal_strconv_FormatBool.si internal_strconv_FormatBool.so x = internal_strconv_FormatBool.B x := by kernel_rfl
theorem internal_strconv_FormatBool.fn : FnOk PP 158 (Tryz.f158.body.getD .skip) Tryz.f158.results.toList Tryz.f158.ntmps := fnOk_mk (by kernel_rfl) (by kernel_rfl) (by kernel_rfl) (by kernel_rfl)
theorem internal_strconv_FormatBool.ok : SpecOk PP 158 ⟨1,internal_strconv_FormatBool.si,internal_strconv_FormatBool.so,internal_strconv_FormatBool.F⟩ := fn_stk cxlex_May (inl0_ok _ _) mixed internal_strconv_FormatBool.fn internal_strconv_FormatBool.h (by kernel_rfl) internal_strconv_FormatBool.ev
noncomputable def spinternal_strconv_FormatBool : List (Nat × List (Nat × AK) × Lv.Spec) := (158,[],⟨1,internal_strconv_FormatBool.si,internal_strconv_FormatBool.so,internal_strconv_FormatBool.F⟩) :: splex_May
noncomputable abbrev cinternal_strconv_FormatBool : Cx := ⟨tabAt tab0,eqAt eqs0,specAt spinternal_strconv_FormatBool,67,specPAt sqddl_parser_view⟩
theorem cxinternal_strconv_FormatBool : CxOk PP cinternal_strconv_FormatBool := cxlex_May.consS [] internal_strconv_FormatBool.fn.enters internal_strconv_FormatBool.ok
def strconv_FormatBool.si : Sh := ⟨[(0,.v false [.bool])],[],[],0,[]⟩
def strconv_FormatBool.so : Sh := ⟨[(0,.v false [.str])],[],[],1000,[]⟩
def strconv_FormatBool.h : H := .n
noncomputable def strconv_FormatBool.B : Bool × Unit → Option (ByteArray × Unit) := fun (p0,_) =>
 Option.bind (internal_strconv_FormatBool.F (p0,())) fun y1 =>
 some (y1.1,())
noncomputable def strconv_FormatBool.F := stk strconv_FormatBool.B
theorem strconv_FormatBool.ev (x : TS strconv_FormatBool.si) : evF cinternal_strconv_FormatBool inl0 (Tryz.f141.body.getD .skip) Tryz.f141.results.toList strconv_FormatBool.h strconv_FormatBool.si strconv_FormatBool.so x = strconv_FormatBool.B x := by kernel_rfl
theorem strconv_FormatBool.fn : FnOk PP 141 (Tryz.f141.body.getD .skip) Tryz.f141.results.toList Tryz.f141.ntmps := fnOk_mk (by kernel_rfl) (by kernel_rfl) (by kernel_rfl) (by kernel_rfl)
theorem strconv_FormatBool.ok : SpecOk PP 141 ⟨1,strconv_FormatBool.si,strconv_FormatBool.so,strconv_FormatBool.F⟩ := fn_stk cxinternal_strconv_FormatBool (inl0_ok _ _) mixed strconv_FormatBool.fn strconv_FormatBool.h (by kernel_rfl) strconv_FormatBool.ev
noncomputable def spstrconv_FormatBool : List (Nat × List (Nat × AK) × Lv.Spec) := (141,[],⟨1,strconv_FormatBool.si,strconv_FormatBool.so,strconv_FormatBool.F⟩) :: spinternal_strconv_FormatBool
noncomputable abbrev cstrconv_FormatBool : Cx := ⟨tabAt tab0,eqAt eqs0,specAt spstrconv_FormatBool,67,specPAt sqddl_parser_view⟩
theorem cxstrconv_FormatBool : CxOk PP cstrconv_FormatBool := cxinternal_strconv_FormatBool.consS [] strconv_FormatBool.fn.enters strconv_FormatBool.ok
def strings_ReplaceAll.si : Sh := ⟨[(0,.v false [.str]),(1,.v false [.str]),(2,.v false [.str])],[],[],0,[]⟩
def strings_ReplaceAll.so : Sh := ⟨[(0,.v false [.str])],[],[],1000,[]⟩
noncomputable def strings_ReplaceAll.B : TS strings_ReplaceAll.si → Option (TS strings_ReplaceAll.so) := replaceF
noncomputable def strings_ReplaceAll.F := stk strings_ReplaceAll.B
theorem strings_ReplaceAll.eq : strings_ReplaceAll.F = strings_ReplaceAll.B := stk_eq _
theorem strings_ReplaceAll.ok : SpecOk PP 142 ⟨3,strings_ReplaceAll.si,strings_ReplaceAll.so,strings_ReplaceAll.F⟩ := by
 rw [strings_ReplaceAll.eq]
 exact replace_ok
theorem strings_ReplaceAll.en : Lv.Enters PP 142 := ⟨_,Tryz.func142,by kernel_rfl,by decide⟩
noncomputable def spstrings_ReplaceAll : List (Nat × List (Nat × AK) × Lv.Spec) := (142,[],⟨3,strings_ReplaceAll.si,strings_ReplaceAll.so,strings_ReplaceAll.F⟩) :: spstrconv_FormatBool
noncomputable abbrev cstrings_ReplaceAll : Cx := ⟨tabAt tab0,eqAt eqs0,specAt spstrings_ReplaceAll,67,specPAt sqddl_parser_view⟩
theorem cxstrings_ReplaceAll : CxOk PP cstrings_ReplaceAll := cxstrconv_FormatBool.consS [] strings_ReplaceAll.en strings_ReplaceAll.ok
def value_Text.si : Sh := ⟨[(0,.v true [.int .i64,.int .i64,.str])],[],[],0,[]⟩
def value_Text.so : Sh := ⟨[(0,.v false [.str])],[],[],1000,[]⟩
def value_Text.h : H := .n
noncomputable def value_Text.B : Int × Int × ByteArray × Unit → Option (ByteArray × Unit) := fun (p0_0,p0_1,p0_2,_) =>
 (bif (p0_0 == (0 : Int)) then
 some ((⟨#[110,117,108,108]⟩ : ByteArray),())
 else
 (bif (p0_0 == (1 : Int)) then
 Option.bind (strconv_FormatBool.F ((p0_1 != (0 : Int)),())) fun y1 =>
 some (y1.1,())
 else
 (bif (p0_0 == (2 : Int)) then
 Option.bind (strconv_Itoa.F (p0_1,())) fun y2 =>
 some (y2.1,())
 else
 (bif (p0_0 == (3 : Int)) then
 Option.bind (strings_ReplaceAll.F (p0_2,(⟨#[39]⟩ : ByteArray),(⟨#[39,39]⟩ : ByteArray),())) fun y3 =>
 bif (!decide ((((⟨#[39]⟩ : ByteArray).size + y3.1.size : Nat) : Int) > IntKind.i64.max)) then
 let e4 : ByteArray := ((⟨#[39]⟩ : ByteArray) ++ y3.1)
 bif (!decide (((e4.size + (⟨#[39]⟩ : ByteArray).size : Nat) : Int) > IntKind.i64.max)) then
 let e5 : ByteArray := (e4 ++ (⟨#[39]⟩ : ByteArray))
 some (e5,())
 else none
 else none
 else
 some ((⟨#[63]⟩ : ByteArray),())))))
noncomputable def value_Text.F := stk value_Text.B
theorem value_Text.eq : value_Text.F = value_Text.B := stk_eq _
theorem value_Text.ev (x : TS value_Text.si) : evF cstrings_ReplaceAll inl0 (Tryz.f125.body.getD .skip) Tryz.f125.results.toList value_Text.h value_Text.si value_Text.so x = value_Text.B x := by kernel_rfl
theorem value_Text.fn : FnOk PP 125 (Tryz.f125.body.getD .skip) Tryz.f125.results.toList Tryz.f125.ntmps := fnOk_mk (by kernel_rfl) (by kernel_rfl) (by kernel_rfl) (by kernel_rfl)
theorem value_Text.ok : SpecOk PP 125 ⟨1,value_Text.si,value_Text.so,value_Text.F⟩ := fn_stk cxstrings_ReplaceAll (inl0_ok _ _) mixed value_Text.fn value_Text.h (by kernel_rfl) value_Text.ev
noncomputable def spvalue_Text : List (Nat × List (Nat × AK) × Lv.Spec) := (125,[],⟨1,value_Text.si,value_Text.so,value_Text.F⟩) :: spstrings_ReplaceAll
noncomputable abbrev cvalue_Text : Cx := ⟨tabAt tab0,eqAt eqs0,specAt spvalue_Text,67,specPAt sqddl_parser_view⟩
theorem cxvalue_Text : CxOk PP cvalue_Text := cxstrings_ReplaceAll.consS [] value_Text.fn.enters value_Text.ok
def strings_Join.si : Sh := ⟨[(0,.v false [.sl 9 .str]),(1,.v false [.str])],[],[],0,[]⟩
def strings_Join.so : Sh := ⟨[(0,.v false [.str])],[],[],1000,[]⟩
noncomputable def strings_Join.B : TS strings_Join.si → Option (TS strings_Join.so) := fun (xs,sep,_) => if xs.length ≤ 140737488355328 ∧ (joinB xs sep).size ≤ 140737488355328 then some (joinB xs sep,()) else none
noncomputable def strings_Join.F := stk strings_Join.B
theorem strings_Join.eq : strings_Join.F = strings_Join.B := stk_eq _
theorem strings_Join.ok : SpecOk PP 21 ⟨2,strings_Join.si,strings_Join.so,strings_Join.F⟩ := by
 rw [strings_Join.eq]
 exact join_ok
theorem strings_Join.en : Lv.Enters PP 21 := ⟨_,Tryz.func21,by kernel_rfl,by decide⟩
noncomputable def spstrings_Join : List (Nat × List (Nat × AK) × Lv.Spec) := (21,[],⟨2,strings_Join.si,strings_Join.so,strings_Join.F⟩) :: spvalue_Text
noncomputable abbrev cstrings_Join : Cx := ⟨tabAt tab0,eqAt eqs0,specAt spstrings_Join,67,specPAt sqddl_parser_view⟩
theorem cxstrings_Join : CxOk PP cstrings_Join := cxvalue_Text.consS [] strings_Join.en strings_Join.ok
def lex_Print.si : Sh := ⟨[(0,.v false [.sl 110 tTok])],[],[],0,[]⟩
def lex_Print.so : Sh := ⟨[(0,.v false [.str])],[],[],1000,[]⟩
def lex_Print.h : H := (.s none .n (.s none .n (.s (some ⟨[(3,.v false [.ref 0])],[(0,false,.arr 9 .str)],[],1,[]⟩) (.s none .n (.b (.l ⟨[(3,.v false [.ref 0]),(8,.v false [.int .i64])],[(0,false,.arr 9 .str)],[6,7],1,[]⟩ .n))) .n)))
noncomputable def lex_Print.B : (List tTokT) × Unit → Option (ByteArray × Unit) := fun (p0,_) =>
 Option.bind (
 loopM (S := Int × (List ByteArray) × Unit) (fun (x8,o3_0,_) =>
 (bif (decide (x8 < (p0.length : Int))) then
 bif (decide (0 ≤ x8) && decide (x8 < (p0.length : Int))) then
 let e1 : tTokT := (List.getD p0 (Int.toNat x8) tTok.z)
 Option.bind (lex_May.F (e1.1,e1.2.1,e1.2.2.1,e1.2.2.2.1,e1.2.2.2.2,())) fun y2 =>
 (bif (!y2.1) then
 some (.inr (.inr ((⟨#[]⟩ : ByteArray),())))
 else
 (bif (e1.1 == (1 : Int)) then
 Option.bind (value_Text.F (e1.2.2.1,e1.2.2.2.1,e1.2.2.2.2,())) fun y3 =>
 bif (Nat.ble (o3_0.length + [y3.1].length) 8796093022208) then
 let e4 : Int := (IntKind.i64.wrap (x8 + (1 : Int)))
 some (.inl (e4,(o3_0 ++ [y3.1]),()))
 else none
 else
 bif (Nat.ble (o3_0.length + [e1.2.1].length) 8796093022208) then
 let e5 : Int := (IntKind.i64.wrap (x8 + (1 : Int)))
 some (.inl (e5,(o3_0 ++ [e1.2.1]),()))
 else none))
 else none
 else
 some (.inr (.inl (o3_0,()))))) ((0 : Int),[],()) : Option (((List ByteArray) × Unit) ⊕ _)) fun r6 => match r6 with
 | .inl (o3_0_6,_) =>
 (Option.bind (strings_Join.F (o3_0_6,(⟨#[32]⟩ : ByteArray),())) fun y7 =>
 some (y7.1,()))
 | .inr r => some r
noncomputable def lex_Print.F := stk lex_Print.B
theorem lex_Print.eq : lex_Print.F = lex_Print.B := stk_eq _
theorem lex_Print.ev (x : TS lex_Print.si) : evF cstrings_Join inl0 (Tryz.f105.body.getD .skip) Tryz.f105.results.toList lex_Print.h lex_Print.si lex_Print.so x = lex_Print.B x := by kernel_rfl
theorem lex_Print.fn : FnOk PP 105 (Tryz.f105.body.getD .skip) Tryz.f105.results.toList Tryz.f105.ntmps := fnOk_mk (by kernel_rfl) (by kernel_rfl) (by kernel_rfl) (by kernel_rfl)
theorem lex_Print.ok : SpecOk PP 105 ⟨1,lex_Print.si,lex_Print.so,lex_Print.F⟩ := fn_stk cxstrings_Join (inl0_ok _ _) mixed lex_Print.fn lex_Print.h (by kernel_rfl) lex_Print.ev
noncomputable def splex_Print : List (Nat × List (Nat × AK) × Lv.Spec) := (105,[],⟨1,lex_Print.si,lex_Print.so,lex_Print.F⟩) :: spstrings_Join
noncomputable abbrev clex_Print : Cx := ⟨tabAt tab0,eqAt eqs0,specAt splex_Print,67,specPAt sqddl_parser_view⟩
theorem cxlex_Print : CxOk PP clex_Print := cxstrings_Join.consS [] lex_Print.fn.enters lex_Print.ok
def ddl_constant.si : Sh := ⟨[(0,.v true [.int .i64,.int .i64,.str])],[],[],0,[]⟩
def ddl_constant.so : Sh := ⟨[(0,.v false [.str])],[],[],1000,[]⟩
noncomputable def ddl_constant.B : TS ddl_constant.si → Option (TS ddl_constant.so) := fun (a,b,s,_) =>
 let e : ByteArray := (⟨#[]⟩ : ByteArray)
 bif (a == (0 : Int)) && (b == (0 : Int)) && (s == e) then some ((⟨#[110,117,108,108]⟩ : ByteArray),())
 else bif (a == (1 : Int)) && (b == (0 : Int)) && (s == e) then some ((⟨#[102,97,108,115,101]⟩ : ByteArray),())
 else bif (a == (1 : Int)) && (b == (1 : Int)) && (s == e) then some ((⟨#[116,114,117,101]⟩ : ByteArray),())
 else Option.bind (lex_May.F ((1 : Int),e,a,b,s,())) fun y =>
 bif (!y.1) then some ((⟨#[33]⟩ : ByteArray),()) else Option.bind (lex_Print.F ([((1 : Int),e,a,b,s)],())) fun z => some (z.1,())
noncomputable def ddl_constant.F := stk ddl_constant.B
theorem ddl_constant.eq : ddl_constant.F = ddl_constant.B := stk_eq _
theorem ddl_constant.ok : SpecOk PP 75 ⟨1,ddl_constant.si,ddl_constant.so,ddl_constant.F⟩ := by
 rw [ddl_constant.eq]
 exact const_ok2 cxlex_Print (drawnOk cxlex_Print mixed) .n (fun a b s => Option.bind (lex_May.F ((1 : Int),(⟨#[]⟩ : ByteArray),a,b,s,())) fun y => bif (!y.1) then some ((⟨#[33]⟩ : ByteArray),()) else Option.bind (lex_Print.F ([((1 : Int),(⟨#[]⟩ : ByteArray),a,b,s)],())) fun z => some (z.1,())) (fun a b s => by kernel_rfl)
theorem ddl_constant.en : Lv.Enters PP 75 := ⟨_,Tryz.func75,by kernel_rfl,by decide⟩
noncomputable def spddl_constant : List (Nat × List (Nat × AK) × Lv.Spec) := (75,[],⟨1,ddl_constant.si,ddl_constant.so,ddl_constant.F⟩) :: splex_Print
noncomputable abbrev cddl_constant : Cx := ⟨tabAt tab0,eqAt eqs0,specAt spddl_constant,67,specPAt sqddl_parser_view⟩
theorem cxddl_constant : CxOk PP cddl_constant := cxlex_Print.consS [] ddl_constant.en ddl_constant.ok
def ddl_printer_expr.si : Sh := ⟨[(0,.v false [.ptr 0 0]),(1,.v false [.sl 53 tNode])],[(0,true,.box 57 [.ref 1]),(1,true,.arr 9 .str)],[],2,[]⟩
def ddl_printer_expr.so : Sh := ⟨[(0,.tup [])],[(0,true,.box 57 [.ref 1001]),(1001,false,.arr 9 .str)],[],1002,[(0,0)]⟩
def ddl_printer_expr.h : H := (.s none .n (.s (some ⟨[(0,.v false [.ptr 0 0])],[(0,true,.box 57 [.ref 1]),(1,false,.arr 9 .str)],[],2,[]⟩) (.s none .n (.b (.l ⟨[(0,.v false [.ptr 0 0]),(11,.v false [.int .i64])],[(0,true,.box 57 [.ref 1]),(1,false,.arr 9 .str)],[9,10],2,[]⟩ .n))) .n))
noncomputable def ddl_printer_expr.B : (List tNodeT) × (List ByteArray) × Unit → Option ((List ByteArray) × Unit) := fun (p1,o0_0,_) =>
 Option.bind (ddl_printer_add.F ([(⟨#[91]⟩ : ByteArray)],o0_0,())) fun y1 =>
 Option.bind (
 loopM (S := Int × (List ByteArray) × Unit) (fun (x11,o0_0_0,_) =>
 (bif (decide (x11 < (p1.length : Int))) then
 bif (decide (0 ≤ x11) && decide (x11 < (p1.length : Int))) then
 let e2 : tNodeT := (List.getD p1 (Int.toNat x11) tNode.z)
 (bif (e2.1 == (0 : Int)) then
 Option.bind (strconv_Itoa.F (e2.2.1,())) fun y3 =>
 bif (!decide ((((⟨#[99]⟩ : ByteArray).size + y3.1.size : Nat) : Int) > IntKind.i64.max)) then
 let e4 : ByteArray := ((⟨#[99]⟩ : ByteArray) ++ y3.1)
 Option.bind (ddl_printer_add.F ([e4],o0_0_0,())) fun y5 =>
 let e6 : Int := (IntKind.i64.wrap (x11 + (1 : Int)))
 some (.inl (e6,y5.1,()))
 else none
 else
 (bif (e2.1 == (1 : Int)) then
 Option.bind (ddl_constant.F (e2.2.2.1,e2.2.2.2.1,e2.2.2.2.2,())) fun y7 =>
 Option.bind (ddl_printer_add.F ([y7.1],o0_0_0,())) fun y8 =>
 let e9 : Int := (IntKind.i64.wrap (x11 + (1 : Int)))
 some (.inl (e9,y8.1,()))
 else
 let e10 : Int := (IntKind.i64.wrap (e2.1 - (2 : Int)))
 Option.bind (ddl_word.F (e10,[(⟨#[43]⟩ : ByteArray),(⟨#[45]⟩ : ByteArray),(⟨#[42]⟩ : ByteArray),(⟨#[61]⟩ : ByteArray),(⟨#[60]⟩ : ByteArray),(⟨#[97,110,100]⟩ : ByteArray),(⟨#[111,114]⟩ : ByteArray),(⟨#[110,111,116]⟩ : ByteArray),(⟨#[110,117,108,108,32,63]⟩ : ByteArray)],())) fun y11 =>
 Option.bind (ddl_printer_add.F ([y11.1],o0_0_0,())) fun y12 =>
 let e13 : Int := (IntKind.i64.wrap (x11 + (1 : Int)))
 some (.inl (e13,y12.1,()))))
 else none
 else
 some (.inr (.inl (o0_0_0,()))))) ((0 : Int),y1.1,()) : Option (((List ByteArray) × Unit) ⊕ _)) fun r14 => match r14 with
 | .inl (o0_0_0_14,_) =>
 (Option.bind (ddl_printer_add.F ([(⟨#[93]⟩ : ByteArray)],o0_0_0_14,())) fun y15 =>
 some (y15.1,()))
 | .inr r => some r
noncomputable def ddl_printer_expr.F := stk ddl_printer_expr.B
theorem ddl_printer_expr.eq : ddl_printer_expr.F = ddl_printer_expr.B := stk_eq _
theorem ddl_printer_expr.ev (x : TS ddl_printer_expr.si) : evF cddl_constant inl0 (Tryz.f41.body.getD .skip) Tryz.f41.results.toList ddl_printer_expr.h ddl_printer_expr.si ddl_printer_expr.so x = ddl_printer_expr.B x := by kernel_rfl
theorem ddl_printer_expr.fn : FnOk PP 41 (Tryz.f41.body.getD .skip) Tryz.f41.results.toList Tryz.f41.ntmps := fnOk_mk (by kernel_rfl) (by kernel_rfl) (by kernel_rfl) (by kernel_rfl)
theorem ddl_printer_expr.ok : SpecOk PP 41 ⟨2,ddl_printer_expr.si,ddl_printer_expr.so,ddl_printer_expr.F⟩ := fn_stk cxddl_constant (inl0_ok _ _) mixed ddl_printer_expr.fn ddl_printer_expr.h (by kernel_rfl) ddl_printer_expr.ev
noncomputable def spddl_printer_expr : List (Nat × List (Nat × AK) × Lv.Spec) := (41,[],⟨2,ddl_printer_expr.si,ddl_printer_expr.so,ddl_printer_expr.F⟩) :: spddl_constant
noncomputable abbrev cddl_printer_expr : Cx := ⟨tabAt tab0,eqAt eqs0,specAt spddl_printer_expr,67,specPAt sqddl_parser_view⟩
theorem cxddl_printer_expr : CxOk PP cddl_printer_expr := cxddl_constant.consS [] ddl_printer_expr.fn.enters ddl_printer_expr.ok
def ddl_printer_table.si : Sh := ⟨[(0,.v false [.ptr 0 0]),(1,.v true [.str,.sl 49 tColumn,.sl 28 (.sl 53 tNode)])],[(0,true,.box 57 [.ref 1]),(1,true,.arr 9 .str)],[],2,[]⟩
def ddl_printer_table.so : Sh := ⟨[(0,.tup [])],[(0,true,.box 57 [.ref 1001]),(1001,false,.arr 9 .str)],[],1002,[(0,0)]⟩
def ddl_printer_table.h : H := (.s none .n (.s none .n (.s none .n (.s none .n (.s none .n (.b (.l ⟨[(2,.v false [.ptr 0 0]),(23,.v false [.int .i64])],[(0,true,.box 54 [.ptr 1 0]),(1,true,.box 57 [.ref 2]),(2,false,.arr 9 .str)],[21,22],3,[]⟩ .n)))))))
noncomputable def ddl_printer_table.B : ByteArray × (List tColumnT) × (List (List tNodeT)) × (List ByteArray) × Unit → Option ((List ByteArray) × Unit) := fun (p1_0,p1_1,p1_2,o0_0,_) =>
 Option.bind (ddl_printer_add.F ([(⟨#[116,97,98,108,101]⟩ : ByteArray),p1_0,(⟨#[40]⟩ : ByteArray)],o0_0,())) fun y1 =>
 loopM (S := Int × (List ByteArray) × Unit) (fun (x8,o0_0_0,_) =>
 (bif (decide (x8 < (p1_1.length : Int))) then
 Option.bind (
 Option.bind (ddl_printer_addIf.F ((decide (x8 > (0 : Int))),[(⟨#[44]⟩ : ByteArray)],o0_0_0,())) fun y2 =>
 bif (decide (0 ≤ x8) && decide (x8 < (p1_1.length : Int))) then
 let e3 : tColumnT := (List.getD p1_1 (Int.toNat x8) tColumn.z)
 let e4 : Int := (IntKind.i64.wrap (e3.2.1 - (1 : Int)))
 Option.bind (ddl_word.F (e4,[(⟨#[98,111,111,108]⟩ : ByteArray),(⟨#[105,110,116]⟩ : ByteArray),(⟨#[116,101,120,116]⟩ : ByteArray)],())) fun y5 =>
 Option.bind (ddl_printer_add.F ([e3.1,y5.1],y2.1,())) fun y6 =>
 Option.bind (ddl_printer_addIf.F (e3.2.2.1,[(⟨#[110,117,108,108]⟩ : ByteArray)],y6.1,())) fun y7 =>
 Option.bind (ddl_printer_addIf.F (e3.2.2.2.1,[(⟨#[117,110,105,113,117,101]⟩ : ByteArray)],y7.1,())) fun y8 =>
 Option.bind (ddl_word.F (e3.2.2.2.2.2,[(⟨#[114,101,115,116,114,105,99,116]⟩ : ByteArray),(⟨#[99,97,115,99,97,100,101]⟩ : ByteArray),(⟨#[115,101,116,110,117,108,108]⟩ : ByteArray)],())) fun y9 =>
 Option.bind (ddl_printer_addIf.F ((!(e3.2.2.2.2.1.toList == (⟨#[]⟩ : ByteArray).toList)),[(⟨#[114,101,102]⟩ : ByteArray),e3.2.2.2.2.1,y9.1],y8.1,())) fun y10 =>
 some (.inl (y10.1,()))
 else none : Option (((List ByteArray) × Unit) ⊕ _)) fun r11 => match r11 with
 | .inl (o0_0_0_11,_) =>
 (let e12 : Int := (IntKind.i64.wrap (x8 + (1 : Int)))
 some (.inl (e12,o0_0_0_11,())))
 | .inr r => some r
 else
 Option.map Sum.inr (Option.bind (ddl_printer_add.F ([(⟨#[41]⟩ : ByteArray)],o0_0_0,())) fun y13 =>
 loopM (S := Int × (List ByteArray) × Unit) (fun (x23,o2_0_0_0,_) =>
 (bif (decide (x23 < (p1_2.length : Int))) then
 bif (decide (0 ≤ x23) && decide (x23 < (p1_2.length : Int))) then
 let e14 : (List tNodeT) := (List.getD p1_2 (Int.toNat x23) [])
 Option.bind (ddl_printer_add.F ([(⟨#[99,104,101,99,107]⟩ : ByteArray)],o2_0_0_0,())) fun y15 =>
 Option.bind (ddl_printer_expr.F (e14,y15.1,())) fun y16 =>
 let e17 : Int := (IntKind.i64.wrap (x23 + (1 : Int)))
 some (.inl (e17,y16.1,()))
 else none
 else
 some (.inr (o2_0_0_0,())))) ((0 : Int),y13.1,())))) ((0 : Int),y1.1,())
noncomputable def ddl_printer_table.F := stk ddl_printer_table.B
theorem ddl_printer_table.eq : ddl_printer_table.F = ddl_printer_table.B := stk_eq _
noncomputable def ddl_printer_table.ins : Nat → List (Option Slot) → Heap → Option (Code × List ResultVar × H) := fun g xs hp => bif Nat.beq g 37 && cloK xs hp 2 38 then some (Tryz.f37.body.getD .skip,Tryz.f37.results.toList,(.s none .n (.b (.l ⟨[(0,.v false [.ptr 0 0]),(8,.v false [.int .i64])],[(0,true,.box 57 [.ref 1]),(1,false,.arr 9 .str)],[2,7],2,[]⟩ (.s none .n (.s none .n (.s (some ⟨[(0,.v false [.ptr 0 0])],[(0,true,.box 57 [.ref 1]),(1,false,.arr 9 .str)],[2,7,8],2,[]⟩) .n .n))))))) else bif Nat.beq g 38 then some (Tryz.f38.body.getD .skip,Tryz.f38.results.toList,.n) else  none
theorem ddl_printer_table.ins_ok : ∀ n xs hp code res h,ddl_printer_table.ins n xs hp = some (code,res,h) → ∃ nt,FnOk PP n code res nt := by
 intro n xs hp code res h e
 unfold ddl_printer_table.ins at e
 cases e0 : (Nat.beq n 37 && cloK xs hp 2 38) with
 | true => rw [e0] at e; cases e; rw [Nat.eq_of_beq_eq_true (Bool.and_eq_true_iff.1 e0).1]; exact ⟨_,fnOk_mk (by kernel_rfl) (by kernel_rfl) (by kernel_rfl) (by kernel_rfl)⟩
 | false =>
 rw [e0] at e
 cases e1 : (Nat.beq n 38) with
 | true => rw [e1] at e; cases e; rw [Nat.eq_of_beq_eq_true e1]; exact ⟨_,fnOk_mk (by kernel_rfl) (by kernel_rfl) (by kernel_rfl) (by kernel_rfl)⟩
 | false =>
 rw [e1] at e
 cases e
theorem ddl_printer_table.ev (x : TS ddl_printer_table.si) : evF cddl_printer_expr (inlS cddl_printer_expr ddl_printer_table.ins (inlS cddl_printer_expr ddl_printer_table.ins (inlS cddl_printer_expr ddl_printer_table.ins inl0))) (Tryz.f19.body.getD .skip) Tryz.f19.results.toList ddl_printer_table.h ddl_printer_table.si ddl_printer_table.so x = ddl_printer_table.B x := by kernel_rfl
theorem ddl_printer_table.fn : FnOk PP 19 (Tryz.f19.body.getD .skip) Tryz.f19.results.toList Tryz.f19.ntmps := fnOk_mk (by kernel_rfl) (by kernel_rfl) (by kernel_rfl) (by kernel_rfl)
theorem ddl_printer_table.ok : SpecOk PP 19 ⟨2,ddl_printer_table.si,ddl_printer_table.so,ddl_printer_table.F⟩ := fn_stk cxddl_printer_expr (inlS_ok cxddl_printer_expr (inlS_ok cxddl_printer_expr (inlS_ok cxddl_printer_expr (inl0_ok _ _) (drawnOk cxddl_printer_expr mixed) ddl_printer_table.ins_ok) (drawnOk cxddl_printer_expr mixed) ddl_printer_table.ins_ok) (drawnOk cxddl_printer_expr mixed) ddl_printer_table.ins_ok) mixed ddl_printer_table.fn ddl_printer_table.h (by kernel_rfl) ddl_printer_table.ev
noncomputable def spddl_printer_table : List (Nat × List (Nat × AK) × Lv.Spec) := (19,[],⟨2,ddl_printer_table.si,ddl_printer_table.so,ddl_printer_table.F⟩) :: spddl_printer_expr
noncomputable abbrev cddl_printer_table : Cx := ⟨tabAt tab0,eqAt eqs0,specAt spddl_printer_table,67,specPAt sqddl_parser_view⟩
theorem cxddl_printer_table : CxOk PP cddl_printer_table := cxddl_printer_expr.consS [] ddl_printer_table.fn.enters ddl_printer_table.ok
def ddl_printer_view.si : Sh := ⟨[(0,.v false [.ptr 0 0]),(1,.v true [.str,.str,.str,.int .i64,.int .i64,.sl 53 tNode,.sl 3 (.int .i64),.bool,.sl 78 tAgg])],[(0,true,.box 57 [.ref 1]),(1,true,.arr 9 .str)],[],2,[]⟩
def ddl_printer_view.so : Sh := ⟨[(0,.tup [])],[(0,true,.box 57 [.ref 1001]),(1001,false,.arr 9 .str)],[],1002,[(0,0)]⟩
def ddl_printer_view.h : H := (.s none .n (.s none .n (.s none .n (.s (some ⟨[(2,.v false [.ptr 0 0])],[(0,true,.box 54 [.ptr 1 0]),(1,true,.box 57 [.ref 2]),(2,false,.arr 9 .str)],[3,4],3,[]⟩) .n (.s (some ⟨[(2,.v false [.ptr 0 0])],[(0,true,.box 54 [.ptr 1 0]),(1,true,.box 57 [.ref 2]),(2,false,.arr 9 .str)],[3,4],3,[]⟩) .n .n)))))
noncomputable def ddl_printer_view.B : ByteArray × ByteArray × ByteArray × Int × Int × (List tNodeT) × (List Int) × Bool × (List tAggT) × (List ByteArray) × Unit → Option ((List ByteArray) × Unit) := fun (p1_0,p1_1,p1_2,p1_3,p1_4,p1_5,p1_6,p1_7,p1_8,o0_0,_) =>
 Option.bind (ddl_printer_add.F ([(⟨#[118,105,101,119]⟩ : ByteArray),p1_0,(⟨#[102,114,111,109]⟩ : ByteArray),p1_1],o0_0,())) fun y1 =>
 Option.bind (
 bif (decide (0 ≤ (0 : Int)) && decide ((0 : Int) < (2 : Int))) then
 Option.bind (strconv_Itoa.F (p1_3,())) fun y2 =>
 bif (decide (0 ≤ (1 : Int)) && decide ((1 : Int) < (2 : Int))) then
 Option.bind (strconv_Itoa.F (p1_4,())) fun y3 =>
 Option.bind (ddl_printer_addIf.F ((!(p1_2.toList == (⟨#[]⟩ : ByteArray).toList)),[(⟨#[106,111,105,110]⟩ : ByteArray),p1_2,(⟨#[111,110]⟩ : ByteArray),y2.1,(⟨#[61]⟩ : ByteArray),y3.1],y1.1,())) fun y4 =>
 some (.inl (y4.1,()))
 else none
 else none : Option (((List ByteArray) × Unit) ⊕ _)) fun r5 => match r5 with
 | .inl (o2_0_0_0_5,_) =>
 (Option.bind (
 (bif (decide ((p1_5.length : Int) > (0 : Int))) then
 Option.bind (ddl_printer_add.F ([(⟨#[119,104,101,114,101]⟩ : ByteArray)],o2_0_0_0_5,())) fun y6 =>
 Option.bind (ddl_printer_expr.F (p1_5,y6.1,())) fun y7 =>
 some (.inl (y7.1,()))
 else
 some (.inl (o2_0_0_0_5,()))) : Option (((List ByteArray) × Unit) ⊕ _)) fun r8 => match r8 with
 | .inl (o2_0_0_0_8,_) =>
 (Option.bind (ddl_printer_add.F ([(⟨#[112,105,99,107]⟩ : ByteArray)],o2_0_0_0_8,())) fun y9 =>
 loopM (S := Int × (List ByteArray) × Unit) (fun (x8,o0_0_0,_) =>
 (bif (decide (x8 < (p1_6.length : Int))) then
 Option.bind (
 Option.bind (ddl_printer_addIf.F ((decide (x8 > (0 : Int))),[(⟨#[44]⟩ : ByteArray)],o0_0_0,())) fun y10 =>
 bif (decide (0 ≤ x8) && decide (x8 < (p1_6.length : Int))) then
 let e11 : Int := (List.getD p1_6 (Int.toNat x8) (0 : Int))
 Option.bind (strconv_Itoa.F (e11,())) fun y12 =>
 Option.bind (ddl_printer_add.F ([y12.1],y10.1,())) fun y13 =>
 some (.inl (y13.1,()))
 else none : Option (((List ByteArray) × Unit) ⊕ _)) fun r14 => match r14 with
 | .inl (o0_0_0_14,_) =>
 (let e15 : Int := (IntKind.i64.wrap (x8 + (1 : Int)))
 some (.inl (e15,o0_0_0_14,())))
 | .inr r => some r
 else
 Option.map Sum.inr (Option.bind (ddl_printer_addIf.F (p1_7,[(⟨#[103,114,111,117,112]⟩ : ByteArray)],o0_0_0,())) fun y16 =>
 loopM (S := Int × (List ByteArray) × Unit) (fun (x8,o0_0_0,_) =>
 (bif (decide (x8 < (p1_8.length : Int))) then
 Option.bind (
 Option.bind (ddl_printer_addIf.F ((decide (x8 > (0 : Int))),[(⟨#[44]⟩ : ByteArray)],o0_0_0,())) fun y17 =>
 bif (decide (0 ≤ x8) && decide (x8 < (p1_8.length : Int))) then
 let e18 : tAggT := (List.getD p1_8 (Int.toNat x8) tAgg.z)
 Option.bind (ddl_word.F (e18.1,[(⟨#[99,111,117,110,116]⟩ : ByteArray),(⟨#[115,117,109]⟩ : ByteArray),(⟨#[109,105,110]⟩ : ByteArray),(⟨#[109,97,120]⟩ : ByteArray)],())) fun y19 =>
 Option.bind (ddl_printer_add.F ([y19.1],y17.1,())) fun y20 =>
 Option.bind (strconv_Itoa.F (e18.2,())) fun y21 =>
 Option.bind (ddl_printer_addIf.F ((e18.1 != (0 : Int)),[y21.1],y20.1,())) fun y22 =>
 some (.inl (y22.1,()))
 else none : Option (((List ByteArray) × Unit) ⊕ _)) fun r23 => match r23 with
 | .inl (o0_0_0_23,_) =>
 (let e24 : Int := (IntKind.i64.wrap (x8 + (1 : Int)))
 some (.inl (e24,o0_0_0_23,())))
 | .inr r => some r
 else
 some (.inr (o0_0_0,())))) ((0 : Int),y16.1,())))) ((0 : Int),y9.1,()))
 | .inr r => some r)
 | .inr r => some r
noncomputable def ddl_printer_view.F := stk ddl_printer_view.B
theorem ddl_printer_view.eq : ddl_printer_view.F = ddl_printer_view.B := stk_eq _
noncomputable def ddl_printer_view.ins : Nat → List (Option Slot) → Heap → Option (Code × List ResultVar × H) := fun g xs hp => bif Nat.beq g 37 && cloK xs hp 2 43 then some (Tryz.f37.body.getD .skip,Tryz.f37.results.toList,(.s none .n (.b (.l ⟨[(0,.v false [.ptr 0 0]),(8,.v false [.int .i64])],[(0,true,.box 57 [.ref 1]),(1,false,.arr 9 .str)],[2,7],2,[]⟩ (.s none .n (.s none .n (.s (some ⟨[(0,.v false [.ptr 0 0])],[(0,true,.box 57 [.ref 1]),(1,false,.arr 9 .str)],[2,7,8],2,[]⟩) .n .n))))))) else bif Nat.beq g 37 && cloK xs hp 2 44 then some (Tryz.f37.body.getD .skip,Tryz.f37.results.toList,(.s none .n (.b (.l ⟨[(0,.v false [.ptr 0 0]),(8,.v false [.int .i64])],[(0,true,.box 57 [.ref 1]),(1,false,.arr 9 .str)],[2,7],2,[]⟩ (.s none .n (.s none .n (.s (some ⟨[(0,.v false [.ptr 0 0])],[(0,true,.box 57 [.ref 1]),(1,false,.arr 9 .str)],[2,7,8],2,[]⟩) .n .n))))))) else bif Nat.beq g 43 then some (Tryz.f43.body.getD .skip,Tryz.f43.results.toList,.n) else bif Nat.beq g 44 then some (Tryz.f44.body.getD .skip,Tryz.f44.results.toList,.n) else  none
theorem ddl_printer_view.ins_ok : ∀ n xs hp code res h,ddl_printer_view.ins n xs hp = some (code,res,h) → ∃ nt,FnOk PP n code res nt := by
 intro n xs hp code res h e
 unfold ddl_printer_view.ins at e
 cases e0 : (Nat.beq n 37 && cloK xs hp 2 43) with
 | true => rw [e0] at e; cases e; rw [Nat.eq_of_beq_eq_true (Bool.and_eq_true_iff.1 e0).1]; exact ⟨_,fnOk_mk (by kernel_rfl) (by kernel_rfl) (by kernel_rfl) (by kernel_rfl)⟩
 | false =>
 rw [e0] at e
 cases e1 : (Nat.beq n 37 && cloK xs hp 2 44) with
 | true => rw [e1] at e; cases e; rw [Nat.eq_of_beq_eq_true (Bool.and_eq_true_iff.1 e1).1]; exact ⟨_,fnOk_mk (by kernel_rfl) (by kernel_rfl) (by kernel_rfl) (by kernel_rfl)⟩
 | false =>
 rw [e1] at e
 cases e2 : (Nat.beq n 43) with
 | true => rw [e2] at e; cases e; rw [Nat.eq_of_beq_eq_true e2]; exact ⟨_,fnOk_mk (by kernel_rfl) (by kernel_rfl) (by kernel_rfl) (by kernel_rfl)⟩
 | false =>
 rw [e2] at e
 cases e3 : (Nat.beq n 44) with
 | true => rw [e3] at e; cases e; rw [Nat.eq_of_beq_eq_true e3]; exact ⟨_,fnOk_mk (by kernel_rfl) (by kernel_rfl) (by kernel_rfl) (by kernel_rfl)⟩
 | false =>
 rw [e3] at e
 cases e
theorem ddl_printer_view.ev (x : TS ddl_printer_view.si) : evF cddl_printer_table (inlS cddl_printer_table ddl_printer_view.ins (inlS cddl_printer_table ddl_printer_view.ins (inlS cddl_printer_table ddl_printer_view.ins inl0))) (Tryz.f20.body.getD .skip) Tryz.f20.results.toList ddl_printer_view.h ddl_printer_view.si ddl_printer_view.so x = ddl_printer_view.B x := by kernel_rfl
theorem ddl_printer_view.fn : FnOk PP 20 (Tryz.f20.body.getD .skip) Tryz.f20.results.toList Tryz.f20.ntmps := fnOk_mk (by kernel_rfl) (by kernel_rfl) (by kernel_rfl) (by kernel_rfl)
theorem ddl_printer_view.ok : SpecOk PP 20 ⟨2,ddl_printer_view.si,ddl_printer_view.so,ddl_printer_view.F⟩ := fn_stk cxddl_printer_table (inlS_ok cxddl_printer_table (inlS_ok cxddl_printer_table (inlS_ok cxddl_printer_table (inl0_ok _ _) (drawnOk cxddl_printer_table mixed) ddl_printer_view.ins_ok) (drawnOk cxddl_printer_table mixed) ddl_printer_view.ins_ok) (drawnOk cxddl_printer_table mixed) ddl_printer_view.ins_ok) mixed ddl_printer_view.fn ddl_printer_view.h (by kernel_rfl) ddl_printer_view.ev
noncomputable def spddl_printer_view : List (Nat × List (Nat × AK) × Lv.Spec) := (20,[],⟨2,ddl_printer_view.si,ddl_printer_view.so,ddl_printer_view.F⟩) :: spddl_printer_table
noncomputable abbrev cddl_printer_view : Cx := ⟨tabAt tab0,eqAt eqs0,specAt spddl_printer_view,67,specPAt sqddl_parser_view⟩
theorem cxddl_printer_view : CxOk PP cddl_printer_view := cxddl_printer_table.consS [] ddl_printer_view.fn.enters ddl_printer_view.ok
def slices_Equal_api_Expr_api_Node.si : Sh := ⟨[(0,.v false [.sl 53 tNode]),(1,.v false [.sl 53 tNode])],[],[],0,[]⟩
def slices_Equal_api_Expr_api_Node.so : Sh := ⟨[(0,.v false [.bool])],[],[],1000,[]⟩
def slices_Equal_api_Expr_api_Node.h : H := (.s none .n (.s none .n (.s none (.s none .n (.b (.l ⟨[(13,.v false [.int .i64])],[],[0,1,12],0,[]⟩ .n))) .n)))
noncomputable def slices_Equal_api_Expr_api_Node.B : (List tNodeT) × (List tNodeT) × Unit → Option (Bool × Unit) := fun (p0,p1,_) =>
 (bif ((p0.length : Int) != (p1.length : Int)) then
 some (false,())
 else
 loopM (S := Int × Unit) (fun (x13,_) =>
 (bif (decide (x13 < (p0.length : Int))) then
 bif (decide (0 ≤ x13) && decide (x13 < (p0.length : Int))) then
 let e1 : tNodeT := (List.getD p0 (Int.toNat x13) tNode.z)
 bif (decide (0 ≤ x13) && decide (x13 < (p1.length : Int))) then
 let e2 : tNodeT := (List.getD p1 (Int.toNat x13) tNode.z)
 (bif (!(Ty.eq tNode e1 e2)) then
 some (.inr (false,()))
 else
 let e3 : Int := (IntKind.i64.wrap (x13 + (1 : Int)))
 some (.inl (e3,())))
 else none
 else none
 else
 some (.inr (true,())))) ((0 : Int),()))
noncomputable def slices_Equal_api_Expr_api_Node.F := stk slices_Equal_api_Expr_api_Node.B
theorem slices_Equal_api_Expr_api_Node.eq : slices_Equal_api_Expr_api_Node.F = slices_Equal_api_Expr_api_Node.B := stk_eq _
theorem slices_Equal_api_Expr_api_Node.ev (x : TS slices_Equal_api_Expr_api_Node.si) : evF cddl_printer_view inl0 (Tryz.f50.body.getD .skip) Tryz.f50.results.toList slices_Equal_api_Expr_api_Node.h slices_Equal_api_Expr_api_Node.si slices_Equal_api_Expr_api_Node.so x = slices_Equal_api_Expr_api_Node.B x := by kernel_rfl
theorem slices_Equal_api_Expr_api_Node.fn : FnOk PP 50 (Tryz.f50.body.getD .skip) Tryz.f50.results.toList Tryz.f50.ntmps := fnOk_mk (by kernel_rfl) (by kernel_rfl) (by kernel_rfl) (by kernel_rfl)
theorem slices_Equal_api_Expr_api_Node.ok : SpecOk PP 50 ⟨2,slices_Equal_api_Expr_api_Node.si,slices_Equal_api_Expr_api_Node.so,slices_Equal_api_Expr_api_Node.F⟩ := fn_stk cxddl_printer_view (inl0_ok _ _) mixed slices_Equal_api_Expr_api_Node.fn slices_Equal_api_Expr_api_Node.h (by kernel_rfl) slices_Equal_api_Expr_api_Node.ev
noncomputable def spslices_Equal_api_Expr_api_Node : List (Nat × List (Nat × AK) × Lv.Spec) := (50,[],⟨2,slices_Equal_api_Expr_api_Node.si,slices_Equal_api_Expr_api_Node.so,slices_Equal_api_Expr_api_Node.F⟩) :: spddl_printer_view
noncomputable abbrev cslices_Equal_api_Expr_api_Node : Cx := ⟨tabAt tab0,eqAt eqs0,specAt spslices_Equal_api_Expr_api_Node,67,specPAt sqddl_parser_view⟩
theorem cxslices_Equal_api_Expr_api_Node : CxOk PP cslices_Equal_api_Expr_api_Node := cxddl_printer_view.consS [] slices_Equal_api_Expr_api_Node.fn.enters slices_Equal_api_Expr_api_Node.ok
def ddl_Same_1.si : Sh := ⟨[(0,.v false [.sl 53 tNode]),(1,.v false [.sl 53 tNode])],[],[],0,[]⟩
def ddl_Same_1.so : Sh := ⟨[(0,.v false [.bool])],[],[],1000,[]⟩
def ddl_Same_1.h : H := .n
noncomputable def ddl_Same_1.B : (List tNodeT) × (List tNodeT) × Unit → Option (Bool × Unit) := fun (p0,p1,_) =>
 Option.bind (slices_Equal_api_Expr_api_Node.F (p0,p1,())) fun y1 =>
 some (y1.1,())
noncomputable def ddl_Same_1.F := stk ddl_Same_1.B
theorem ddl_Same_1.eq : ddl_Same_1.F = ddl_Same_1.B := stk_eq _
theorem ddl_Same_1.ev (x : TS ddl_Same_1.si) : evF cslices_Equal_api_Expr_api_Node inl0 (Tryz.f49.body.getD .skip) Tryz.f49.results.toList ddl_Same_1.h ddl_Same_1.si ddl_Same_1.so x = ddl_Same_1.B x := by kernel_rfl
theorem ddl_Same_1.fn : FnOk PP 49 (Tryz.f49.body.getD .skip) Tryz.f49.results.toList Tryz.f49.ntmps := fnOk_mk (by kernel_rfl) (by kernel_rfl) (by kernel_rfl) (by kernel_rfl)
theorem ddl_Same_1.ok : SpecOk PP 49 ⟨2,ddl_Same_1.si,ddl_Same_1.so,ddl_Same_1.F⟩ := fn_stk cxslices_Equal_api_Expr_api_Node (inl0_ok _ _) mixed ddl_Same_1.fn ddl_Same_1.h (by kernel_rfl) ddl_Same_1.ev
noncomputable def spddl_Same_1 : List (Nat × List (Nat × AK) × Lv.Spec) := (49,[],⟨2,ddl_Same_1.si,ddl_Same_1.so,ddl_Same_1.F⟩) :: spslices_Equal_api_Expr_api_Node
noncomputable abbrev cddl_Same_1 : Cx := ⟨tabAt tab0,eqAt eqs0,specAt spddl_Same_1,67,specPAt sqddl_parser_view⟩
theorem cxddl_Same_1 : CxOk PP cddl_Same_1 := cxslices_Equal_api_Expr_api_Node.consS [] ddl_Same_1.fn.enters ddl_Same_1.ok
def slices_Equal_sl_api_Column_api_Column.si : Sh := ⟨[(0,.v false [.sl 49 tColumn]),(1,.v false [.sl 49 tColumn])],[],[],0,[]⟩
def slices_Equal_sl_api_Column_api_Column.so : Sh := ⟨[(0,.v false [.bool])],[],[],1000,[]⟩
def slices_Equal_sl_api_Column_api_Column.h : H := (.s none .n (.s none .n (.s none (.s none .n (.b (.l ⟨[(13,.v false [.int .i64])],[],[0,1,12],0,[]⟩ .n))) .n)))
noncomputable def slices_Equal_sl_api_Column_api_Column.B : (List tColumnT) × (List tColumnT) × Unit → Option (Bool × Unit) := fun (p0,p1,_) =>
 (bif ((p0.length : Int) != (p1.length : Int)) then
 some (false,())
 else
 loopM (S := Int × Unit) (fun (x13,_) =>
 (bif (decide (x13 < (p0.length : Int))) then
 bif (decide (0 ≤ x13) && decide (x13 < (p0.length : Int))) then
 let e1 : tColumnT := (List.getD p0 (Int.toNat x13) tColumn.z)
 bif (decide (0 ≤ x13) && decide (x13 < (p1.length : Int))) then
 let e2 : tColumnT := (List.getD p1 (Int.toNat x13) tColumn.z)
 (bif (!(Ty.eq tColumn e1 e2)) then
 some (.inr (false,()))
 else
 let e3 : Int := (IntKind.i64.wrap (x13 + (1 : Int)))
 some (.inl (e3,())))
 else none
 else none
 else
 some (.inr (true,())))) ((0 : Int),()))
noncomputable def slices_Equal_sl_api_Column_api_Column.F := stk slices_Equal_sl_api_Column_api_Column.B
theorem slices_Equal_sl_api_Column_api_Column.eq : slices_Equal_sl_api_Column_api_Column.F = slices_Equal_sl_api_Column_api_Column.B := stk_eq _
theorem slices_Equal_sl_api_Column_api_Column.ev (x : TS slices_Equal_sl_api_Column_api_Column.si) : evF cddl_Same_1 inl0 (Tryz.f51.body.getD .skip) Tryz.f51.results.toList slices_Equal_sl_api_Column_api_Column.h slices_Equal_sl_api_Column_api_Column.si slices_Equal_sl_api_Column_api_Column.so x = slices_Equal_sl_api_Column_api_Column.B x := by kernel_rfl
theorem slices_Equal_sl_api_Column_api_Column.fn : FnOk PP 51 (Tryz.f51.body.getD .skip) Tryz.f51.results.toList Tryz.f51.ntmps := fnOk_mk (by kernel_rfl) (by kernel_rfl) (by kernel_rfl) (by kernel_rfl)
theorem slices_Equal_sl_api_Column_api_Column.ok : SpecOk PP 51 ⟨2,slices_Equal_sl_api_Column_api_Column.si,slices_Equal_sl_api_Column_api_Column.so,slices_Equal_sl_api_Column_api_Column.F⟩ := fn_stk cxddl_Same_1 (inl0_ok _ _) mixed slices_Equal_sl_api_Column_api_Column.fn slices_Equal_sl_api_Column_api_Column.h (by kernel_rfl) slices_Equal_sl_api_Column_api_Column.ev
noncomputable def spslices_Equal_sl_api_Column_api_Column : List (Nat × List (Nat × AK) × Lv.Spec) := (51,[],⟨2,slices_Equal_sl_api_Column_api_Column.si,slices_Equal_sl_api_Column_api_Column.so,slices_Equal_sl_api_Column_api_Column.F⟩) :: spddl_Same_1
noncomputable abbrev cslices_Equal_sl_api_Column_api_Column : Cx := ⟨tabAt tab0,eqAt eqs0,specAt spslices_Equal_sl_api_Column_api_Column,67,specPAt sqddl_parser_view⟩
theorem cxslices_Equal_sl_api_Column_api_Column : CxOk PP cslices_Equal_sl_api_Column_api_Column := cxddl_Same_1.consS [] slices_Equal_sl_api_Column_api_Column.fn.enters slices_Equal_sl_api_Column_api_Column.ok
def slices_Equal_sl_int_int.si : Sh := ⟨[(0,.v false [.sl 3 (.int .i64)]),(1,.v false [.sl 3 (.int .i64)])],[],[],0,[]⟩
def slices_Equal_sl_int_int.so : Sh := ⟨[(0,.v false [.bool])],[],[],1000,[]⟩
def slices_Equal_sl_int_int.h : H := (.s none .n (.s none .n (.s none (.s none .n (.b (.l ⟨[(13,.v false [.int .i64])],[],[0,1,12],0,[]⟩ .n))) .n)))
noncomputable def slices_Equal_sl_int_int.B : (List Int) × (List Int) × Unit → Option (Bool × Unit) := fun (p0,p1,_) =>
 (bif ((p0.length : Int) != (p1.length : Int)) then
 some (false,())
 else
 loopM (S := Int × Unit) (fun (x13,_) =>
 (bif (decide (x13 < (p0.length : Int))) then
 bif (decide (0 ≤ x13) && decide (x13 < (p0.length : Int))) then
 let e1 : Int := (List.getD p0 (Int.toNat x13) (0 : Int))
 bif (decide (0 ≤ x13) && decide (x13 < (p1.length : Int))) then
 let e2 : Int := (List.getD p1 (Int.toNat x13) (0 : Int))
 (bif (e1 != e2) then
 some (.inr (false,()))
 else
 let e3 : Int := (IntKind.i64.wrap (x13 + (1 : Int)))
 some (.inl (e3,())))
 else none
 else none
 else
 some (.inr (true,())))) ((0 : Int),()))
noncomputable def slices_Equal_sl_int_int.F := stk slices_Equal_sl_int_int.B
theorem slices_Equal_sl_int_int.eq : slices_Equal_sl_int_int.F = slices_Equal_sl_int_int.B := stk_eq _
theorem slices_Equal_sl_int_int.ev (x : TS slices_Equal_sl_int_int.si) : evF cslices_Equal_sl_api_Column_api_Column inl0 (Tryz.f52.body.getD .skip) Tryz.f52.results.toList slices_Equal_sl_int_int.h slices_Equal_sl_int_int.si slices_Equal_sl_int_int.so x = slices_Equal_sl_int_int.B x := by kernel_rfl
theorem slices_Equal_sl_int_int.fn : FnOk PP 52 (Tryz.f52.body.getD .skip) Tryz.f52.results.toList Tryz.f52.ntmps := fnOk_mk (by kernel_rfl) (by kernel_rfl) (by kernel_rfl) (by kernel_rfl)
theorem slices_Equal_sl_int_int.ok : SpecOk PP 52 ⟨2,slices_Equal_sl_int_int.si,slices_Equal_sl_int_int.so,slices_Equal_sl_int_int.F⟩ := fn_stk cxslices_Equal_sl_api_Column_api_Column (inl0_ok _ _) mixed slices_Equal_sl_int_int.fn slices_Equal_sl_int_int.h (by kernel_rfl) slices_Equal_sl_int_int.ev
noncomputable def spslices_Equal_sl_int_int : List (Nat × List (Nat × AK) × Lv.Spec) := (52,[],⟨2,slices_Equal_sl_int_int.si,slices_Equal_sl_int_int.so,slices_Equal_sl_int_int.F⟩) :: spslices_Equal_sl_api_Column_api_Column
noncomputable abbrev cslices_Equal_sl_int_int : Cx := ⟨tabAt tab0,eqAt eqs0,specAt spslices_Equal_sl_int_int,67,specPAt sqddl_parser_view⟩
theorem cxslices_Equal_sl_int_int : CxOk PP cslices_Equal_sl_int_int := cxslices_Equal_sl_api_Column_api_Column.consS [] slices_Equal_sl_int_int.fn.enters slices_Equal_sl_int_int.ok
def slices_Equal_sl_api_Agg_api_Agg.si : Sh := ⟨[(0,.v false [.sl 78 tAgg]),(1,.v false [.sl 78 tAgg])],[],[],0,[]⟩
def slices_Equal_sl_api_Agg_api_Agg.so : Sh := ⟨[(0,.v false [.bool])],[],[],1000,[]⟩
def slices_Equal_sl_api_Agg_api_Agg.h : H := (.s none .n (.s none .n (.s none (.s none .n (.b (.l ⟨[(13,.v false [.int .i64])],[],[0,1,12],0,[]⟩ .n))) .n)))
noncomputable def slices_Equal_sl_api_Agg_api_Agg.B : (List tAggT) × (List tAggT) × Unit → Option (Bool × Unit) := fun (p0,p1,_) =>
 (bif ((p0.length : Int) != (p1.length : Int)) then
 some (false,())
 else
 loopM (S := Int × Unit) (fun (x13,_) =>
 (bif (decide (x13 < (p0.length : Int))) then
 bif (decide (0 ≤ x13) && decide (x13 < (p0.length : Int))) then
 let e1 : tAggT := (List.getD p0 (Int.toNat x13) tAgg.z)
 bif (decide (0 ≤ x13) && decide (x13 < (p1.length : Int))) then
 let e2 : tAggT := (List.getD p1 (Int.toNat x13) tAgg.z)
 (bif (!(Ty.eq tAgg e1 e2)) then
 some (.inr (false,()))
 else
 let e3 : Int := (IntKind.i64.wrap (x13 + (1 : Int)))
 some (.inl (e3,())))
 else none
 else none
 else
 some (.inr (true,())))) ((0 : Int),()))
noncomputable def slices_Equal_sl_api_Agg_api_Agg.F := stk slices_Equal_sl_api_Agg_api_Agg.B
theorem slices_Equal_sl_api_Agg_api_Agg.eq : slices_Equal_sl_api_Agg_api_Agg.F = slices_Equal_sl_api_Agg_api_Agg.B := stk_eq _
theorem slices_Equal_sl_api_Agg_api_Agg.ev (x : TS slices_Equal_sl_api_Agg_api_Agg.si) : evF cslices_Equal_sl_int_int inl0 (Tryz.f53.body.getD .skip) Tryz.f53.results.toList slices_Equal_sl_api_Agg_api_Agg.h slices_Equal_sl_api_Agg_api_Agg.si slices_Equal_sl_api_Agg_api_Agg.so x = slices_Equal_sl_api_Agg_api_Agg.B x := by kernel_rfl
theorem slices_Equal_sl_api_Agg_api_Agg.fn : FnOk PP 53 (Tryz.f53.body.getD .skip) Tryz.f53.results.toList Tryz.f53.ntmps := fnOk_mk (by kernel_rfl) (by kernel_rfl) (by kernel_rfl) (by kernel_rfl)
theorem slices_Equal_sl_api_Agg_api_Agg.ok : SpecOk PP 53 ⟨2,slices_Equal_sl_api_Agg_api_Agg.si,slices_Equal_sl_api_Agg_api_Agg.so,slices_Equal_sl_api_Agg_api_Agg.F⟩ := fn_stk cxslices_Equal_sl_int_int (inl0_ok _ _) mixed slices_Equal_sl_api_Agg_api_Agg.fn slices_Equal_sl_api_Agg_api_Agg.h (by kernel_rfl) slices_Equal_sl_api_Agg_api_Agg.ev
noncomputable def spslices_Equal_sl_api_Agg_api_Agg : List (Nat × List (Nat × AK) × Lv.Spec) := (53,[],⟨2,slices_Equal_sl_api_Agg_api_Agg.si,slices_Equal_sl_api_Agg_api_Agg.so,slices_Equal_sl_api_Agg_api_Agg.F⟩) :: spslices_Equal_sl_int_int
noncomputable abbrev cslices_Equal_sl_api_Agg_api_Agg : Cx := ⟨tabAt tab0,eqAt eqs0,specAt spslices_Equal_sl_api_Agg_api_Agg,67,specPAt sqddl_parser_view⟩
theorem cxslices_Equal_sl_api_Agg_api_Agg : CxOk PP cslices_Equal_sl_api_Agg_api_Agg := cxslices_Equal_sl_int_int.consS [] slices_Equal_sl_api_Agg_api_Agg.fn.enters slices_Equal_sl_api_Agg_api_Agg.ok
def ddl_Same.si : Sh := ⟨[(0,.v true [.int .i64,.str,.sl 49 tColumn,.sl 28 (.sl 53 tNode),.str,.str,.str,.int .i64,.int .i64,.sl 53 tNode,.sl 3 (.int .i64),.bool,.sl 78 tAgg]),(1,.v true [.int .i64,.str,.sl 49 tColumn,.sl 28 (.sl 53 tNode),.str,.str,.str,.int .i64,.int .i64,.sl 53 tNode,.sl 3 (.int .i64),.bool,.sl 78 tAgg])],[],[],0,[]⟩
def ddl_Same.so : Sh := ⟨[(0,.v false [.bool])],[],[],1000,[]⟩
def ddl_Same.h : H := (.s none .n (.s none .n (.s none .n (.s (some ⟨[(10,.v false [.bool])],[],[2,3,7,8],0,[]⟩) .n (.s (some ⟨[(11,.v false [.bool])],[],[2,3,10],0,[]⟩) .n .n)))))
noncomputable def ddl_Same.B : Int × ByteArray × (List tColumnT) × (List (List tNodeT)) × ByteArray × ByteArray × ByteArray × Int × Int × (List tNodeT) × (List Int) × Bool × (List tAggT) × Int × ByteArray × (List tColumnT) × (List (List tNodeT)) × ByteArray × ByteArray × ByteArray × Int × Int × (List tNodeT) × (List Int) × Bool × (List tAggT) × Unit → Option (Bool × Unit) := fun (p0_0,p0_1,p0_2,p0_3,p0_4,p0_5,p0_6,p0_7,p0_8,p0_9,p0_10,p0_11,p0_12,p1_0,p1_1,p1_2,p1_3,p1_4,p1_5,p1_6,p1_7,p1_8,p1_9,p1_10,p1_11,p1_12,_) =>
 (bif ((p0_3.length : Int) != (p1_3.length : Int)) then
 Option.bind (
 (bif (p0_1.toList == p1_1.toList) then
 Option.bind (slices_Equal_sl_api_Column_api_Column.F (p0_2,p1_2,())) fun y1 =>
 (bif y1.1 then
 some (.inl (false,()))
 else
 some (.inl (false,())))
 else
 some (.inl (false,()))) : Option ((Bool × Unit) ⊕ _)) fun r2 => match r2 with
 | .inl (x10_2,_) =>
 (Option.bind (
 (bif (p0_4.toList == p1_4.toList) then
 (bif (p0_5.toList == p1_5.toList) then
 (bif (p0_6.toList == p1_6.toList) then
 (bif (Ty.eq tAgg (p0_7,p0_8) (p1_7,p1_8)) then
 Option.bind (slices_Equal_api_Expr_api_Node.F (p0_9,p1_9,())) fun y3 =>
 (bif y3.1 then
 Option.bind (slices_Equal_sl_int_int.F (p0_10,p1_10,())) fun y4 =>
 (bif y4.1 then
 (bif (p0_11 == p1_11) then
 Option.bind (slices_Equal_sl_api_Agg_api_Agg.F (p0_12,p1_12,())) fun y5 =>
 some (.inl (y5.1,()))
 else
 some (.inl (false,())))
 else
 some (.inl (false,())))
 else
 some (.inl (false,())))
 else
 some (.inl (false,())))
 else
 some (.inl (false,())))
 else
 some (.inl (false,())))
 else
 some (.inl (false,()))) : Option ((Bool × Unit) ⊕ _)) fun r6 => match r6 with
 | .inl (x11_6,_) =>
 ((bif (p0_0 == p1_0) then
 (bif x10_2 then
 some (x11_6,())
 else
 some (false,()))
 else
 some (false,())))
 | .inr r => some r)
 | .inr r => some r
 else
 loopM (S := Int × Unit) (fun (x17,_) =>
 (bif (decide (x17 < (p0_3.length : Int))) then
 bif (decide (0 ≤ x17) && decide (x17 < (p0_3.length : Int))) then
 let e7 : (List tNodeT) := (List.getD p0_3 (Int.toNat x17) [])
 bif (decide (0 ≤ x17) && decide (x17 < (p1_3.length : Int))) then
 let e8 : (List tNodeT) := (List.getD p1_3 (Int.toNat x17) [])
 Option.bind (
 Option.bind (ddl_Same_1.F (e7,e8,())) fun y9 =>
 some (.inl ((!y9.1),())) : Option ((Bool × Unit) ⊕ _)) fun r10 => match r10 with
 | .inl (x30_10,_) =>
 ((bif x30_10 then
 Option.map Sum.inr (Option.bind (
 (bif (p0_1.toList == p1_1.toList) then
 Option.bind (slices_Equal_sl_api_Column_api_Column.F (p0_2,p1_2,())) fun y11 =>
 (bif y11.1 then
 some (.inl (false,()))
 else
 some (.inl (false,())))
 else
 some (.inl (false,()))) : Option ((Bool × Unit) ⊕ _)) fun r12 => match r12 with
 | .inl (x10_12,_) =>
 (Option.bind (
 (bif (p0_4.toList == p1_4.toList) then
 (bif (p0_5.toList == p1_5.toList) then
 (bif (p0_6.toList == p1_6.toList) then
 (bif (Ty.eq tAgg (p0_7,p0_8) (p1_7,p1_8)) then
 Option.bind (slices_Equal_api_Expr_api_Node.F (p0_9,p1_9,())) fun y13 =>
 (bif y13.1 then
 Option.bind (slices_Equal_sl_int_int.F (p0_10,p1_10,())) fun y14 =>
 (bif y14.1 then
 (bif (p0_11 == p1_11) then
 Option.bind (slices_Equal_sl_api_Agg_api_Agg.F (p0_12,p1_12,())) fun y15 =>
 some (.inl (y15.1,()))
 else
 some (.inl (false,())))
 else
 some (.inl (false,())))
 else
 some (.inl (false,())))
 else
 some (.inl (false,())))
 else
 some (.inl (false,())))
 else
 some (.inl (false,())))
 else
 some (.inl (false,()))) : Option ((Bool × Unit) ⊕ _)) fun r16 => match r16 with
 | .inl (x11_16,_) =>
 ((bif (p0_0 == p1_0) then
 (bif x10_12 then
 some (x11_16,())
 else
 some (false,()))
 else
 some (false,())))
 | .inr r => some r)
 | .inr r => some r)
 else
 let e17 : Int := (IntKind.i64.wrap (x17 + (1 : Int)))
 some (.inl (e17,()))))
 | .inr r => some r
 else none
 else none
 else
 Option.map Sum.inr (Option.bind (
 (bif (p0_1.toList == p1_1.toList) then
 Option.bind (slices_Equal_sl_api_Column_api_Column.F (p0_2,p1_2,())) fun y18 =>
 (bif y18.1 then
 some (.inl (true,()))
 else
 some (.inl (false,())))
 else
 some (.inl (false,()))) : Option ((Bool × Unit) ⊕ _)) fun r19 => match r19 with
 | .inl (x10_19,_) =>
 (Option.bind (
 (bif (p0_4.toList == p1_4.toList) then
 (bif (p0_5.toList == p1_5.toList) then
 (bif (p0_6.toList == p1_6.toList) then
 (bif (Ty.eq tAgg (p0_7,p0_8) (p1_7,p1_8)) then
 Option.bind (slices_Equal_api_Expr_api_Node.F (p0_9,p1_9,())) fun y20 =>
 (bif y20.1 then
 Option.bind (slices_Equal_sl_int_int.F (p0_10,p1_10,())) fun y21 =>
 (bif y21.1 then
 (bif (p0_11 == p1_11) then
 Option.bind (slices_Equal_sl_api_Agg_api_Agg.F (p0_12,p1_12,())) fun y22 =>
 some (.inl (y22.1,()))
 else
 some (.inl (false,())))
 else
 some (.inl (false,())))
 else
 some (.inl (false,())))
 else
 some (.inl (false,())))
 else
 some (.inl (false,())))
 else
 some (.inl (false,())))
 else
 some (.inl (false,()))) : Option ((Bool × Unit) ⊕ _)) fun r23 => match r23 with
 | .inl (x11_23,_) =>
 ((bif (p0_0 == p1_0) then
 (bif x10_19 then
 some (x11_23,())
 else
 some (false,()))
 else
 some (false,())))
 | .inr r => some r)
 | .inr r => some r))) ((0 : Int),()))
noncomputable def ddl_Same.F := stk ddl_Same.B
theorem ddl_Same.eq : ddl_Same.F = ddl_Same.B := stk_eq _
noncomputable def ddl_Same.ins : Nat → List (Option Slot) → Heap → Option (Code × List ResultVar × H) := fun g xs hp => bif Nat.beq g 48 then some (Tryz.f48.body.getD .skip,Tryz.f48.results.toList,(.s none .n (.s none .n (.s none (.s none .n (.b (.l ⟨[(17,.v false [.int .i64])],[],[1,2,15,16],0,[]⟩ (.s none .n (.s none .n (.s none (.b (.s none .n (.s none .n (.s (some ⟨[(30,.v false [.bool])],[],[1,2,15,16,17],0,[]⟩) .n .n)))) .n)))))) .n)))) else  none
theorem ddl_Same.ins_ok : ∀ n xs hp code res h,ddl_Same.ins n xs hp = some (code,res,h) → ∃ nt,FnOk PP n code res nt := by
 intro n xs hp code res h e
 unfold ddl_Same.ins at e
 cases e0 : (Nat.beq n 48) with
 | true => rw [e0] at e; cases e; rw [Nat.eq_of_beq_eq_true e0]; exact ⟨_,fnOk_mk (by kernel_rfl) (by kernel_rfl) (by kernel_rfl) (by kernel_rfl)⟩
 | false =>
 rw [e0] at e
 cases e
theorem ddl_Same.ev (x : TS ddl_Same.si) : evF cslices_Equal_sl_api_Agg_api_Agg (inlS cslices_Equal_sl_api_Agg_api_Agg ddl_Same.ins (inlS cslices_Equal_sl_api_Agg_api_Agg ddl_Same.ins (inlS cslices_Equal_sl_api_Agg_api_Agg ddl_Same.ins inl0))) (Tryz.f22.body.getD .skip) Tryz.f22.results.toList ddl_Same.h ddl_Same.si ddl_Same.so x = ddl_Same.B x := by kernel_rfl
theorem ddl_Same.fn : FnOk PP 22 (Tryz.f22.body.getD .skip) Tryz.f22.results.toList Tryz.f22.ntmps := fnOk_mk (by kernel_rfl) (by kernel_rfl) (by kernel_rfl) (by kernel_rfl)
theorem ddl_Same.ok : SpecOk PP 22 ⟨2,ddl_Same.si,ddl_Same.so,ddl_Same.F⟩ := fn_stk cxslices_Equal_sl_api_Agg_api_Agg (inlS_ok cxslices_Equal_sl_api_Agg_api_Agg (inlS_ok cxslices_Equal_sl_api_Agg_api_Agg (inlS_ok cxslices_Equal_sl_api_Agg_api_Agg (inl0_ok _ _) (drawnOk cxslices_Equal_sl_api_Agg_api_Agg mixed) ddl_Same.ins_ok) (drawnOk cxslices_Equal_sl_api_Agg_api_Agg mixed) ddl_Same.ins_ok) (drawnOk cxslices_Equal_sl_api_Agg_api_Agg mixed) ddl_Same.ins_ok) mixed ddl_Same.fn ddl_Same.h (by kernel_rfl) ddl_Same.ev
noncomputable def spddl_Same : List (Nat × List (Nat × AK) × Lv.Spec) := (22,[],⟨2,ddl_Same.si,ddl_Same.so,ddl_Same.F⟩) :: spslices_Equal_sl_api_Agg_api_Agg
noncomputable abbrev cddl_Same : Cx := ⟨tabAt tab0,eqAt eqs0,specAt spddl_Same,67,specPAt sqddl_parser_view⟩
theorem cxddl_Same : CxOk PP cddl_Same := cxslices_Equal_sl_api_Agg_api_Agg.consS [] ddl_Same.fn.enters ddl_Same.ok
def ddl_Print.si : Sh := ⟨[(0,.v true [.int .i64,.str,.sl 49 tColumn,.sl 28 (.sl 53 tNode),.str,.str,.str,.int .i64,.int .i64,.sl 53 tNode,.sl 3 (.int .i64),.bool,.sl 78 tAgg])],[],[],0,[]⟩
def ddl_Print.so : Sh := ⟨[(0,.v false [.str])],[],[],1000,[]⟩
def ddl_Print.h : H := (.s none .n (.s none .n (.s (some ⟨[(3,.v false [.ptr 0 0])],[(0,true,.box 57 [.ref 1]),(1,false,.arr 9 .str)],[1],2,[]⟩) .n .n)))
noncomputable def ddl_Print.B : Int × ByteArray × (List tColumnT) × (List (List tNodeT)) × ByteArray × ByteArray × ByteArray × Int × Int × (List tNodeT) × (List Int) × Bool × (List tAggT) × Unit → Option (ByteArray × Unit) := fun (p0_0,p0_1,p0_2,p0_3,p0_4,p0_5,p0_6,p0_7,p0_8,p0_9,p0_10,p0_11,p0_12,_) =>
 Option.bind (
 (bif (p0_0 == (0 : Int)) then
 Option.bind (ddl_printer_table.F (p0_1,p0_2,p0_3,[],())) fun y1 =>
 some (.inl (y1.1,()))
 else
 Option.bind (ddl_printer_view.F (p0_4,p0_5,p0_6,p0_7,p0_8,p0_9,p0_10,p0_11,p0_12,[],())) fun y2 =>
 some (.inl (y2.1,()))) : Option (((List ByteArray) × Unit) ⊕ _)) fun r3 => match r3 with
 | .inl (o3_0_0_3,_) =>
 (Option.bind (strings_Join.F (o3_0_0_3,(⟨#[32]⟩ : ByteArray),())) fun y4 =>
 (bif (decide ((y4.1.size : Int) > (20000 : Int))) then
 some ((⟨#[]⟩ : ByteArray),())
 else
 Option.bind (ddl_Parse.F (y4.1,())) fun y5 =>
 (bif (y5.2.2.2.2.2.2.2.2.1 != (0 : Int)) then
 some ((⟨#[]⟩ : ByteArray),())
 else
 Option.bind (ddl_Same.F (p0_0,p0_1,p0_2,p0_3,p0_4,p0_5,p0_6,p0_7,p0_8,p0_9,p0_10,p0_11,p0_12,y5.1,y5.2.1,y5.2.2.2.2.2.2.2.2.2.1,y5.2.2.2.2.2.2.2.2.2.2.1,y5.2.2.1,y5.2.2.2.1,y5.2.2.2.2.1,y5.2.2.2.2.2.1,y5.2.2.2.2.2.2.1,y5.2.2.2.2.2.2.2.2.2.2.2.1,y5.2.2.2.2.2.2.2.2.2.2.2.2.1,y5.2.2.2.2.2.2.2.1,y5.2.2.2.2.2.2.2.2.2.2.2.2.2.1,())) fun y6 =>
 (bif (!y6.1) then
 some ((⟨#[]⟩ : ByteArray),())
 else
 some (y4.1,())))))
 | .inr r => some r
noncomputable def ddl_Print.F := stk ddl_Print.B
theorem ddl_Print.eq : ddl_Print.F = ddl_Print.B := stk_eq _
theorem ddl_Print.ev (x : TS ddl_Print.si) : evF cddl_Same inl0 (Tryz.f10.body.getD .skip) Tryz.f10.results.toList ddl_Print.h ddl_Print.si ddl_Print.so x = ddl_Print.B x := by kernel_rfl
theorem ddl_Print.fn : FnOk PP 10 (Tryz.f10.body.getD .skip) Tryz.f10.results.toList Tryz.f10.ntmps := fnOk_mk (by kernel_rfl) (by kernel_rfl) (by kernel_rfl) (by kernel_rfl)
theorem ddl_Print.ok : SpecOk PP 10 ⟨1,ddl_Print.si,ddl_Print.so,ddl_Print.F⟩ := fn_stk cxddl_Same (inl0_ok _ _) mixed ddl_Print.fn ddl_Print.h (by kernel_rfl) ddl_Print.ev
noncomputable def spddl_Print : List (Nat × List (Nat × AK) × Lv.Spec) := (10,[],⟨1,ddl_Print.si,ddl_Print.so,ddl_Print.F⟩) :: spddl_Same
noncomputable abbrev cddl_Print : Cx := ⟨tabAt tab0,eqAt eqs0,specAt spddl_Print,67,specPAt sqddl_parser_view⟩
theorem cxddl_Print : CxOk PP cddl_Print := cxddl_Same.consS [] ddl_Print.fn.enters ddl_Print.ok
def ddl_May.si : Sh := ⟨[(0,.v true [.int .i64,.str,.sl 49 tColumn,.sl 28 (.sl 53 tNode),.str,.str,.str,.int .i64,.int .i64,.sl 53 tNode,.sl 3 (.int .i64),.bool,.sl 78 tAgg])],[],[],0,[]⟩
def ddl_May.so : Sh := ⟨[(0,.v false [.bool])],[],[],1000,[]⟩
def ddl_May.h : H := .n
noncomputable def ddl_May.B : Int × ByteArray × (List tColumnT) × (List (List tNodeT)) × ByteArray × ByteArray × ByteArray × Int × Int × (List tNodeT) × (List Int) × Bool × (List tAggT) × Unit → Option (Bool × Unit) := fun (p0_0,p0_1,p0_2,p0_3,p0_4,p0_5,p0_6,p0_7,p0_8,p0_9,p0_10,p0_11,p0_12,_) =>
 Option.bind (ddl_Print.F (p0_0,p0_1,p0_2,p0_3,p0_4,p0_5,p0_6,p0_7,p0_8,p0_9,p0_10,p0_11,p0_12,())) fun y1 =>
 some ((!(y1.1.toList == (⟨#[]⟩ : ByteArray).toList)),())
noncomputable def ddl_May.F := stk ddl_May.B
theorem ddl_May.eq : ddl_May.F = ddl_May.B := stk_eq _
theorem ddl_May.ev (x : TS ddl_May.si) : evF cddl_Print inl0 (Tryz.f12.body.getD .skip) Tryz.f12.results.toList ddl_May.h ddl_May.si ddl_May.so x = ddl_May.B x := by kernel_rfl
theorem ddl_May.fn : FnOk PP 12 (Tryz.f12.body.getD .skip) Tryz.f12.results.toList Tryz.f12.ntmps := fnOk_mk (by kernel_rfl) (by kernel_rfl) (by kernel_rfl) (by kernel_rfl)
theorem ddl_May.ok : SpecOk PP 12 ⟨1,ddl_May.si,ddl_May.so,ddl_May.F⟩ := fn_stk cxddl_Print (inl0_ok _ _) mixed ddl_May.fn ddl_May.h (by kernel_rfl) ddl_May.ev
noncomputable def spddl_May : List (Nat × List (Nat × AK) × Lv.Spec) := (12,[],⟨1,ddl_May.si,ddl_May.so,ddl_May.F⟩) :: spddl_Print
noncomputable abbrev cddl_May : Cx := ⟨tabAt tab0,eqAt eqs0,specAt spddl_May,67,specPAt sqddl_parser_view⟩
theorem cxddl_May : CxOk PP cddl_May := cxddl_Print.consS [] ddl_May.fn.enters ddl_May.ok
def L07_fixed.si : Sh := ⟨[],[],[],0,[]⟩
def L07_fixed.so : Sh := ⟨[(0,.v false [.bool])],[],[],1000,[]⟩
def L07_fixed.h : H := .n
noncomputable def L07_fixed.B : Unit → Option (Bool × Unit) := fun (_) =>
 Option.bind (ddl_Parse.F ((⟨#[116,97,98,108,101,32,116,40,107,32,105,110,116,44,32,97,32,116,101,120,116,32,110,117,108,108,32,114,101,102,32,117,32,99,97,115,99,97,100,101,41,32,99,104,101,99,107,32,91,99,48,32,48,32,60,93]⟩ : ByteArray),())) fun y1 =>
 Option.bind (ddl_Parse.F ((⟨#[118,105,101,119,32,118,32,102,114,111,109,32,116,32,119,104,101,114,101,32,91,99,48,32,110,117,108,108,32,63,93,32,112,105,99,107,32,49,32,103,114,111,117,112,32,99,111,117,110,116,44,32,115,117,109,32,48]⟩ : ByteArray),())) fun y2 =>
 Option.bind (ddl_Parse.F ((⟨#[116,97,98,108,101,32,116,40,41]⟩ : ByteArray),())) fun y3 =>
 Option.bind (ddl_Parse.F ((⟨#[116,97,98,108,101,32,116,97,98,108,101,40,107,32,105,110,116,41]⟩ : ByteArray),())) fun y4 =>
 (bif (y1.2.2.2.2.2.2.2.2.1 == (0 : Int)) then
 (bif ((y1.2.2.2.2.2.2.2.2.2.1.length : Int) == (2 : Int)) then
 bif (decide (0 ≤ (1 : Int)) && decide ((1 : Int) < (y1.2.2.2.2.2.2.2.2.2.1.length : Int))) then
 let e5 : tColumnT := (List.getD y1.2.2.2.2.2.2.2.2.2.1 1 tColumn.z)
 (bif (Ty.eq tColumn e5 ((⟨#[97]⟩ : ByteArray),((3 : Int),(true,(false,((⟨#[117]⟩ : ByteArray),(1 : Int))))))) then
 (bif (y2.2.2.2.2.2.2.2.2.1 == (0 : Int)) then
 (bif y2.2.2.2.2.2.2.2.1 then
 (bif ((y2.2.2.2.2.2.2.2.2.2.2.2.2.2.1.length : Int) == (2 : Int)) then
 (bif ((y2.2.2.2.2.2.2.2.2.2.2.2.1.length : Int) == (2 : Int)) then
 bif (decide (0 ≤ (1 : Int)) && decide ((1 : Int) < (y2.2.2.2.2.2.2.2.2.2.2.2.1.length : Int))) then
 let e6 : tNodeT := (List.getD y2.2.2.2.2.2.2.2.2.2.2.2.1 1 tNode.z)
 (bif (e6.1 == (10 : Int)) then
 (bif (y3.2.2.2.2.2.2.2.2.1 == (70 : Int)) then
 (bif (y4.2.2.2.2.2.2.2.2.1 == (70 : Int)) then
 Option.bind (ddl_Print.F (y2.1,y2.2.1,y2.2.2.2.2.2.2.2.2.2.1,y2.2.2.2.2.2.2.2.2.2.2.1,y2.2.2.1,y2.2.2.2.1,y2.2.2.2.2.1,y2.2.2.2.2.2.1,y2.2.2.2.2.2.2.1,y2.2.2.2.2.2.2.2.2.2.2.2.1,y2.2.2.2.2.2.2.2.2.2.2.2.2.1,y2.2.2.2.2.2.2.2.1,y2.2.2.2.2.2.2.2.2.2.2.2.2.2.1,())) fun y7 =>
 (bif (y7.1.toList == (⟨#[118,105,101,119,32,118,32,102,114,111,109,32,116,32,119,104,101,114,101,32,91,32,99,48,32,110,117,108,108,32,63,32,93,32,112,105,99,107,32,49,32,103,114,111,117,112,32,99,111,117,110,116,32,44,32,115,117,109,32,48]⟩ : ByteArray).toList) then
 Option.bind (ddl_May.F (y1.1,y1.2.1,y1.2.2.2.2.2.2.2.2.2.1,y1.2.2.2.2.2.2.2.2.2.2.1,y1.2.2.1,y1.2.2.2.1,y1.2.2.2.2.1,y1.2.2.2.2.2.1,y1.2.2.2.2.2.2.1,y1.2.2.2.2.2.2.2.2.2.2.2.1,y1.2.2.2.2.2.2.2.2.2.2.2.2.1,y1.2.2.2.2.2.2.2.1,y1.2.2.2.2.2.2.2.2.2.2.2.2.2.1,())) fun y8 =>
 some (y8.1,())
 else
 some (false,()))
 else
 some (false,()))
 else
 some (false,()))
 else
 some (false,()))
 else none
 else
 some (false,()))
 else
 some (false,()))
 else
 some (false,()))
 else
 some (false,()))
 else
 some (false,()))
 else none
 else
 some (false,()))
 else
 some (false,()))
noncomputable def L07_fixed.F := stk L07_fixed.B
theorem L07_fixed.eq : L07_fixed.F = L07_fixed.B := stk_eq _
theorem L07_fixed.ev (x : TS L07_fixed.si) : evF cddl_May inl0 (Tryz.f9.body.getD .skip) Tryz.f9.results.toList L07_fixed.h L07_fixed.si L07_fixed.so x = L07_fixed.B x := by kernel_rfl
theorem L07_fixed.fn : FnOk PP 9 (Tryz.f9.body.getD .skip) Tryz.f9.results.toList Tryz.f9.ntmps := fnOk_mk (by kernel_rfl) (by kernel_rfl) (by kernel_rfl) (by kernel_rfl)
theorem L07_fixed.ok : SpecOk PP 9 ⟨0,L07_fixed.si,L07_fixed.so,L07_fixed.F⟩ := fn_stk cxddl_May (inl0_ok _ _) mixed L07_fixed.fn L07_fixed.h (by kernel_rfl) L07_fixed.ev
noncomputable def spL07_fixed : List (Nat × List (Nat × AK) × Lv.Spec) := (9,[],⟨0,L07_fixed.si,L07_fixed.so,L07_fixed.F⟩) :: spddl_May
noncomputable abbrev cL07_fixed : Cx := ⟨tabAt tab0,eqAt eqs0,specAt spL07_fixed,67,specPAt sqddl_parser_view⟩
theorem cxL07_fixed : CxOk PP cL07_fixed := cxddl_May.consS [] L07_fixed.fn.enters L07_fixed.ok
def L07_DdlPrints.si : Sh := ⟨[(0,.v true [.int .i64,.str,.sl 49 tColumn,.sl 28 (.sl 53 tNode),.str,.str,.str,.int .i64,.int .i64,.sl 53 tNode,.sl 3 (.int .i64),.bool,.sl 78 tAgg])],[],[],0,[]⟩
def L07_DdlPrints.so : Sh := ⟨[(0,.v false [.bool])],[],[],1000,[]⟩
def L07_DdlPrints.h : H := .n
noncomputable def L07_DdlPrints.B : Int × ByteArray × (List tColumnT) × (List (List tNodeT)) × ByteArray × ByteArray × ByteArray × Int × Int × (List tNodeT) × (List Int) × Bool × (List tAggT) × Unit → Option (Bool × Unit) := fun (p0_0,p0_1,p0_2,p0_3,p0_4,p0_5,p0_6,p0_7,p0_8,p0_9,p0_10,p0_11,p0_12,_) =>
 Option.bind (R07_Big.F (p0_0,p0_1,p0_2,p0_3,p0_4,p0_5,p0_6,p0_7,p0_8,p0_9,p0_10,p0_11,p0_12,())) fun y1 =>
 (bif y1.1 then
 Option.bind (L07_fixed.F (())) fun y2 =>
 some (y2.1,())
 else
 Option.bind (L07_fixed.F (())) fun y3 =>
 (bif y3.1 then
 Option.bind (ddl_Print.F (p0_0,p0_1,p0_2,p0_3,p0_4,p0_5,p0_6,p0_7,p0_8,p0_9,p0_10,p0_11,p0_12,())) fun y4 =>
 Option.bind (R07_Print.F (p0_0,p0_1,p0_2,p0_3,p0_4,p0_5,p0_6,p0_7,p0_8,p0_9,p0_10,p0_11,p0_12,())) fun y5 =>
 (bif (y4.1.toList == y5.1.toList) then
 Option.bind (ddl_May.F (p0_0,p0_1,p0_2,p0_3,p0_4,p0_5,p0_6,p0_7,p0_8,p0_9,p0_10,p0_11,p0_12,())) fun y6 =>
 Option.bind (R07_Print.F (p0_0,p0_1,p0_2,p0_3,p0_4,p0_5,p0_6,p0_7,p0_8,p0_9,p0_10,p0_11,p0_12,())) fun y7 =>
 some ((y6.1 == (!(y7.1.toList == (⟨#[]⟩ : ByteArray).toList))),())
 else
 some (false,()))
 else
 some (false,())))
noncomputable def L07_DdlPrints.F := stk L07_DdlPrints.B
theorem L07_DdlPrints.eq : L07_DdlPrints.F = L07_DdlPrints.B := stk_eq _
theorem L07_DdlPrints.ev (x : TS L07_DdlPrints.si) : evF cL07_fixed inl0 (Tryz.f3.body.getD .skip) Tryz.f3.results.toList L07_DdlPrints.h L07_DdlPrints.si L07_DdlPrints.so x = L07_DdlPrints.B x := by kernel_rfl
theorem L07_DdlPrints.fn : FnOk PP 3 (Tryz.f3.body.getD .skip) Tryz.f3.results.toList Tryz.f3.ntmps := fnOk_mk (by kernel_rfl) (by kernel_rfl) (by kernel_rfl) (by kernel_rfl)
theorem L07_DdlPrints.ok : SpecOk PP 3 ⟨1,L07_DdlPrints.si,L07_DdlPrints.so,L07_DdlPrints.F⟩ := fn_stk cxL07_fixed (inl0_ok _ _) mixed L07_DdlPrints.fn L07_DdlPrints.h (by kernel_rfl) L07_DdlPrints.ev
end Go.Proofs.Ytnogebfcpicghaa
