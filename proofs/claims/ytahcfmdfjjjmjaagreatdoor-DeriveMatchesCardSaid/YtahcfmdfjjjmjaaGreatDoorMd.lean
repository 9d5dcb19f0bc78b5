/- Merged texts: TvEng, TvOk, Close, TvSm, EngZC, TvBin, Money, TvB, TvC, TvD, TvE, TvF, TvG, TvH, TvI, TvJ, TvTopA, TvTop, TvUs. -/
import Derived.Test.YtahcfmdfjjjmjaaGreatDoorProg
import Derived.Test.YtahcfmdfjjjmjaaGreatDoorRows
import Derived.ProofKit
import Derived.OpenShut
import Derived.Stop.Joined
import Derived.SevenTiedAt
import Derived.WideKeyElems2
import Derived.LaidMore
import Derived.Deep.Slices
import Derived.Test.YtahcfmdfjjjmjaaGreatDoorTie
import Derived.Test.YtahcfmdfjjjmjaaGreatDoorCards
import Derived.Test.YtahcfmdfjjjmjaaGreatDoorMc
open And renaming intro->aK
open BitVec renaming ofInt->bW
open Bool renaming and_eq_false_iff->aX,and_eq_true->az,and_self->dv,and_true->bZ,eq_false_iff->jN,false->ae,false_eq_true->bc,not_eq_false'->bJ,not_eq_true'->bh,or_eq_false_iff->bD,or_eq_true->bw,true->af,true_and->cm,true_eq_false->bu
open Decidable renaming not_not->bV
open Go.BinOp renaming and->dh
open Go.DataW renaming Trod->kN,TrodAll->gE,trod->dA,trod_struct->fF
open Go.IntKind renaming bits->ak,i64->ac,u64->aA,wrap_u64->dj
open Go.Lib renaming hid->cj
open Go.Proofs.YtahcfmdfjjjmjaaGreatDoor.Env renaming has->bC,v0->bM,v1->bN,v10->bp,v11->bj,v12->bq,v13->bk,v14->br,v15->bm,v2->bO,v3->bP,v4->bQ,v5->bR,v6->bK,v7->bS,v8->bT,v9->bL
open Go.Proofs.YtahcfmdfjjjmjaaGreatDoor.Ext renaming refl->dw
open Go.Proofs.YtahcfmdfjjjmjaaGreatDoor.Ins renaming m->iB,n->cd,op->bG
open Go.Proofs.YtahcfmdfjjjmjaaGreatDoor.LX renaming D->dG,k->fE,m->gX
open Go.Proofs.YtahcfmdfjjjmjaaGreatDoor.Opn renaming rest->cP
open Go.Proofs.YtahcfmdfjjjmjaaGreatDoor.St renaming clause->aw,fuel->aQ,pc->be,pops->bA,stack->aF,status->av,zero->eX
open Go.Value renaming agg->kQ,bool->kM,cells->jq,slice->bI
open Go.WideElems renaming elemAt->dy,rg->eW
open Go.World renaming cells?_some->gQ
open Int renaming fdiv->aB,le_refl->eu,not_le->dF,ofNat_eq_natCast->bi,toNat->ag,toNat_natCast->bB
open List renaming all->kZ,all_cons->kx,all_eq_true->ik,cons_append->fO,drop->aV,drop_eq_getElem_cons->cA,drop_eq_nil_of_le->dK,drop_zero->eO,getD->aa,getD_eq_getElem?_getD->aI,getElem?_drop->cL,getElem?_eq_getElem->aq,getElem?_eq_some_iff->ar,getElem?_take->bU,getElem_cons_succ->dN,getElem_cons_zero->dL,getElem_toArray->dY,length->ab,length_append->aO,length_cons->aT,length_nil->bF,length_replicate->jk,length_take->aW,mem_cons->bE,mem_of_getElem?->cp,mem_or_eq_of_mem_set->iQ,nil_append->eD,range->cy,replicate->aS,set->eG,take->aj,take_of_length_le->aN,take_succ_cons->jD,take_succ_eq_append_getElem->dV,take_zero->ko
open Nat renaming le_refl->aE,not_lt_zero->iU,zero_add->bX,zero_le->bg
open Option renaming bind_eq_some_iff->an,none->aD,some->ah
open Option.some renaming inj->aU,injEq->cF
open Prod renaming fst->ay,snd->aJ
namespace Go.Proofs.YtahcfmdfjjjmjaaGreatDoor
set_option linter.unusedVariables false
set_option linter.unusedSimpArgs false
set_option linter.unnecessarySimpa false
set_option maxRecDepth 100000
section
open Go
inductive Th|ints|u32s|w64|ins|sts|bys|vals|byss|opns|envs|digs
  deriving DecidableEq
def domT:Th->Type| .ints=>Int| .u32s=>Int| .w64=>Int| .ins=>Ins| .sts=>St| .bys=>Int| .vals=>Val| .byss=>List (Int)| .opns=>Opn| .envs=>Env| .digs=>List Int
abbrev thy:Thy:=⟨Th,domT,inferInstance⟩
def yF(a b:Array TypeId):TyI:=⟨.func a b ae,1,8,.nilFunc⟩
def yS(t:TypeId):TyI:=⟨.slice t,1,24,.slice aD 0 0⟩
def yP(t:TypeId):TyI:=⟨.pointer t,1,8,.pointer aD⟩
def yI(k:IntKind) (n:Nat):TyI:=⟨.int k,1,n,.int k 0⟩
def yf(n:String) (t:TypeId) (o:Nat) (p:String) (b:Nat):Field:=⟨n,t,o,ae,"",p,b⟩
def yZ1:TyI:=⟨.struct #[yf "x" 2 0 "runtime" 0,yf "y" 3 1 "runtime" 8,yf "signed" 4 2 "runtime" 16,yf "code" 6 3 "runtime" 17],4,24,.agg #[.int .i64 0,.int .i64 0,.bool ae,.int .u8 0]⟩
def yZ2:TyI:=⟨.struct #[yf "msg" 9 0 "runtime" 0,yf "addr" 12 1 "runtime" 16],2,24,.agg #[.string ⟨#[]⟩,.int .u64 0]⟩
def yZ3:TyI:=⟨.struct #[yf "typ" 17 0 "internal/runtime/maps" 0],1,8,.agg #[.pointer aD]⟩
def yZ4:TyI:=⟨.struct #[yf "Has" 3 0 "" 0,yf "V" 24 1 "" 8],17,136,.agg ⟨aS 17 (.int .i64 0)⟩⟩
def yZ5:TyI:=⟨.struct #[yf "Code" 23 0 "" 0,yf "Env" 26 1 "" 24,yf "Amount" 3 18 "" 160,yf "Error" 27 19 "" 168,yf "Leaves" 28 20 "" 176],21,200,.agg #[.slice aD 0 0,.int .i64 0,.int .i64 0,.int .i64 0,.int .i64 0,.int .i64 0,.int .i64 0,.int .i64 0,.int .i64 0,.int .i64 0,.int .i64 0,.int .i64 0,.int .i64 0,.int .i64 0,.int .i64 0,.int .i64 0,.int .i64 0,.int .i64 0,.int .i64 0,.int .i64 0,.slice aD 0 0]⟩
def yZ6:TyI:=⟨.struct #[yf "Size" 3 0 "" 0,yf "Root" 36 1 "" 8],33,40,.agg #[.int .i64 0,.int .u8 0,.int .u8 0,.int .u8 0,.int .u8 0,.int .u8 0,.int .u8 0,.int .u8 0,.int .u8 0,.int .u8 0,.int .u8 0,.int .u8 0,.int .u8 0,.int .u8 0,.int .u8 0,.int .u8 0,.int .u8 0,.int .u8 0,.int .u8 0,.int .u8 0,.int .u8 0,.int .u8 0,.int .u8 0,.int .u8 0,.int .u8 0,.int .u8 0,.int .u8 0,.int .u8 0,.int .u8 0,.int .u8 0,.int .u8 0,.int .u8 0,.int .u8 0]⟩
def yZ7:TyI:=⟨.struct #[yf "Pc" 3 0 "" 0,yf "Fuel" 3 1 "" 8,yf "Status" 3 2 "" 16,yf "Clause" 3 3 "" 24,yf "Stack" 41 4 "" 32],5,56,.agg #[.int .i64 0,.int .i64 0,.int .i64 0,.int .i64 0,.slice aD 0 0]⟩
def yZ8:TyI:=⟨.struct #[yf "Railway" 3 0 "" 0,yf "No" 3 1 "" 8],2,16,.agg #[.int .i64 0,.int .i64 0]⟩
def yZ9:TyI:=⟨.struct #[yf "Kind" 3 0 "" 0,yf "Wagon" 3 1 "" 8,yf "Ref" 55 2 "" 16,yf "Part" 3 4 "" 32],5,40,.agg #[.int .i64 0,.int .i64 0,.int .i64 0,.int .i64 0,.int .i64 0]⟩
def yZ10:TyI:=⟨.struct #[yf "Key" 57 0 "" 0,yf "Payer" 3 5 "" 40,yf "Payee" 3 6 "" 48,yf "Railway" 3 7 "" 56,yf "At" 3 8 "" 64,yf "Env" 26 9 "" 72,yf "Sources" 58 26 "" 208],27,232,.agg #[.int .i64 0,.int .i64 0,.int .i64 0,.int .i64 0,.int .i64 0,.int .i64 0,.int .i64 0,.int .i64 0,.int .i64 0,.int .i64 0,.int .i64 0,.int .i64 0,.int .i64 0,.int .i64 0,.int .i64 0,.int .i64 0,.int .i64 0,.int .i64 0,.int .i64 0,.int .i64 0,.int .i64 0,.int .i64 0,.int .i64 0,.int .i64 0,.int .i64 0,.int .i64 0,.slice aD 0 0]⟩
def yZ11:TyI:=⟨.struct #[yf "Pc" 3 0 "" 0,yf "Fuel" 3 1 "" 8,yf "Status" 3 2 "" 16,yf "Clause" 3 3 "" 24,yf "Top" 41 4 "" 32,yf "Depth" 3 5 "" 56,yf "Rest" 36 6 "" 64],38,96,.agg #[.int .i64 0,.int .i64 0,.int .i64 0,.int .i64 0,.slice aD 0 0,.int .i64 0,.int .u8 0,.int .u8 0,.int .u8 0,.int .u8 0,.int .u8 0,.int .u8 0,.int .u8 0,.int .u8 0,.int .u8 0,.int .u8 0,.int .u8 0,.int .u8 0,.int .u8 0,.int .u8 0,.int .u8 0,.int .u8 0,.int .u8 0,.int .u8 0,.int .u8 0,.int .u8 0,.int .u8 0,.int .u8 0,.int .u8 0,.int .u8 0,.int .u8 0,.int .u8 0,.int .u8 0,.int .u8 0,.int .u8 0,.int .u8 0,.int .u8 0,.int .u8 0]⟩
def yZ12:TyI:=⟨.struct #[yf "Op" 3 0 "" 0,yf "N" 3 1 "" 8,yf "M" 3 2 "" 16],3,24,.agg #[.int .i64 0,.int .i64 0,.int .i64 0]⟩
def yZ13:TyI:=⟨.struct #[yf "Kind" 3 0 "" 0,yf "N" 3 1 "" 8,yf "B" 97 2 "" 16,yf "L" 98 3 "" 40],4,64,.agg #[.int .i64 0,.int .i64 0,.slice aD 0 0,.slice aD 0 0]⟩
def yZ14:TyI:=⟨.struct #[yf "Name" 9 0 "" 0,yf "For" 3 1 "" 16,yf "Clauses" 110 2 "" 24],3,48,.agg #[.string ⟨#[]⟩,.int .i64 0,.slice aD 0 0]⟩
def yZ15:TyI:=⟨.struct #[yf "Kind" 3 0 "" 0,yf "Ref" 55 1 "" 8,yf "Wagon" 3 3 "" 24,yf "Place" 3 4 "" 32,yf "Other" 3 5 "" 40,yf "Number" 3 6 "" 48,yf "From" 3 7 "" 56,yf "To" 3 8 "" 64,yf "Code" 3 9 "" 72,yf "Dest" 3 10 "" 80,yf "Class" 3 11 "" 88,yf "Weight" 3 12 "" 96,yf "Amount" 3 13 "" 104,yf "Text" 9 14 "" 112,yf "Parts" 136 15 "" 128],16,152,.agg #[.int .i64 0,.int .i64 0,.int .i64 0,.int .i64 0,.int .i64 0,.int .i64 0,.int .i64 0,.int .i64 0,.int .i64 0,.int .i64 0,.int .i64 0,.int .i64 0,.int .i64 0,.int .i64 0,.string ⟨#[]⟩,.slice aD 0 0]⟩
def yZ16:TyI:=⟨.struct #[yf "Ref" 55 0 "" 0,yf "By" 55 2 "" 16,yf "Time" 3 4 "" 32,yf "Item" 138 5 "" 40],21,192,.agg #[.int .i64 0,.int .i64 0,.int .i64 0,.int .i64 0,.int .i64 0,.int .i64 0,.int .i64 0,.int .i64 0,.int .i64 0,.int .i64 0,.int .i64 0,.int .i64 0,.int .i64 0,.int .i64 0,.int .i64 0,.int .i64 0,.int .i64 0,.int .i64 0,.int .i64 0,.string ⟨#[]⟩,.slice aD 0 0]⟩
def yZ17:TyI:=⟨.struct #[yf "code" 23 0 "wagonpool/tcode" 0],1,24,.agg #[.slice aD 0 0]⟩
def yZ18:TyI:=⟨.struct #[yf "Op" 3 0 "" 0,yf "N" 3 1 "" 8,yf "Unit" 148 2 "" 16,yf "L" 149 6 "" 48],7,72,.agg #[.int .i64 0,.int .i64 0,.int .i64 0,.int .i64 0,.int .i64 0,.int .i64 0,.slice aD 0 0]⟩
def yZ19:TyI:=⟨.struct #[yf "Name" 9 0 "" 0,yf "When" 146 1 "" 16,yf "Pay" 151 2 "" 40],9,112,.agg #[.string ⟨#[]⟩,.slice aD 0 0,.int .i64 0,.int .i64 0,.int .i64 0,.int .i64 0,.int .i64 0,.int .i64 0,.slice aD 0 0]⟩
def yZ20:TyI:=⟨.struct #[yf "v" 26 0 "wagonpool/tvm" 0,yf "s" 43 17 "wagonpool/tvm" 136,yf "below" 3 22 "wagonpool/tvm" 192],23,200,.agg #[.int .i64 0,.int .i64 0,.int .i64 0,.int .i64 0,.int .i64 0,.int .i64 0,.int .i64 0,.int .i64 0,.int .i64 0,.int .i64 0,.int .i64 0,.int .i64 0,.int .i64 0,.int .i64 0,.int .i64 0,.int .i64 0,.int .i64 0,.int .i64 0,.int .i64 0,.int .i64 0,.int .i64 0,.slice aD 0 0,.int .i64 0]⟩
def yZ21:TyI:=⟨.struct #[yf "Attr" 3 0 "" 0,yf "Low" 3 1 "" 8,yf "High" 3 2 "" 16],3,24,.agg #[.int .i64 0,.int .i64 0,.int .i64 0]⟩
def yZ22:TyI:=⟨.struct #[yf "at" 3 0 "wagonpool/tparse" 0,yf "e" 27 1 "wagonpool/tparse" 8],2,16,.agg #[.int .i64 0,.int .i64 0]⟩
def yZ23:TyI:=⟨.struct #[yf "l" 211 0 "wagonpool/tparse" 0,yf "end" 3 1 "wagonpool/tparse" 24],2,32,.agg #[.slice aD 0 0,.int .i64 0]⟩
def yZ24:TyI:=⟨.struct #[yf "l" 227 0 "wagonpool/tparse" 0],1,24,.agg #[.slice aD 0 0]⟩
def yZ25:TyI:=⟨.struct #[yf "low" 238 0 "wagonpool/tbox" 0,yf "high" 238 16 "wagonpool/tbox" 128],32,256,.agg ⟨aS 32 (.int .i64 0)⟩⟩
def yZ26:TyI:=⟨.struct #[yf "apply" 248 0 "wagonpool/tvm" 0],1,8,.agg #[.nilFunc]⟩
def yZ27:TyI:=⟨.struct #[yf "Kind" 3 0 "" 0,yf "Text" 9 1 "" 8,yf "N" 3 2 "" 24,yf "At" 3 3 "" 32],4,40,.agg #[.int .i64 0,.string ⟨#[]⟩,.int .i64 0,.int .i64 0]⟩
def yZ28:TyI:=⟨.struct #[yf "addr" 279 0 "strings" 0,yf "buf" 97 1 "strings" 8],2,32,.agg #[.pointer aD,.slice aD 0 0]⟩
def yZ29:TyI:=⟨.struct #[yf "unit" 287 0 "wagonpool/ttype" 0],1,8,.agg #[.nilFunc]⟩
def yZ30:TyI:=⟨.struct #[yf "start" 3 0 "strings" 0,yf "end" 3 1 "strings" 8],2,16,.agg #[.int .i64 0,.int .i64 0]⟩
def yZ31:TyI:=⟨.struct #[yf "R16" 332 0 "" 0,yf "R32" 333 1 "" 24,yf "LatinOffset" 3 2 "" 48],3,56,.agg #[.slice aD 0 0,.slice aD 0 0,.int .i64 0]⟩
def yZ32:TyI:=⟨.struct #[yf "Lo" 336 0 "" 0,yf "Hi" 336 1 "" 2,yf "Stride" 336 2 "" 4],3,6,.agg #[.int .u16 0,.int .u16 0,.int .u16 0]⟩
def yZ33:TyI:=⟨.struct #[yf "Lo" 156 0 "" 0,yf "Hi" 156 1 "" 4,yf "Stride" 156 2 "" 8],3,12,.agg #[.int .u32 0,.int .u32 0,.int .u32 0]⟩
def yZ34:TyI:=⟨.struct #[yf "lo" 5 0 "unicode/utf8" 0,yf "hi" 5 1 "unicode/utf8" 1],2,2,.agg #[.int .u8 0,.int .u8 0]⟩
def yZ35:TyI:=⟨.struct #[yf "_interface" 17 0 "runtime" 0,yf "concrete" 17 1 "runtime" 8,yf "asserted" 17 2 "runtime" 16,yf "missingMethod" 9 3 "runtime" 24],4,40,.agg #[.pointer aD,.pointer aD,.pointer aD,.string ⟨#[]⟩]⟩
def yZ36:TyI:=⟨.struct #[yf "_" 363 0 "runtime" 0],0,0,.agg #[]⟩
def yZ37:TyI:=⟨.struct #[yf "Size_" 12 0 "" 0,yf "PtrBytes" 12 1 "" 8,yf "Hash" 156 2 "" 16,yf "TFlag" 366 3 "" 20,yf "Align_" 5 4 "" 21,yf "FieldAlign_" 5 5 "" 22,yf "Kind_" 367 6 "" 23,yf "Equal" 368 7 "" 24,yf "GCData" 326 8 "" 32,yf "Str" 369 9 "" 40,yf "PtrToThis" 370 10 "" 44],11,48,.agg #[.int .u64 0,.int .u64 0,.int .u32 0,.int .u8 0,.int .u8 0,.int .u8 0,.int .u8 0,.nilFunc,.pointer aD,.int .i32 0,.int .i32 0]⟩
def yZ38:TyI:=⟨.struct #[yf "Kind" 3 0 "" 0,yf "Serial" 3 1 "" 8,yf "Fitted" 4 2 "" 16],3,24,.agg #[.int .i64 0,.int .i64 0,.bool ae]⟩
noncomputable def tyT:Tr TyI:=(.node 190 (.node 94 (.node 48 (.node 22 (.node 11 (.node 6 (.node 3 (.node 2 (.leaf 1 (yF #[] #[])) (.leaf 2 (yI .i64 8))) (.node 4 (.leaf 3 (yI .i64 8)) (.node 5 (.leaf 4 ⟨.bool,1,1,.bool ae⟩) (.leaf 5 (yI .u8 1))))) (.node 8 (.node 7 (.leaf 6 (yI .u8 1)) (.leaf 7 yZ1)) (.node 9 (.leaf 8 yZ1) (.node 10 (.leaf 9 ⟨.string,1,16,.string ⟨#[]⟩⟩) (.leaf 10 ⟨.string,1,16,.string ⟨#[]⟩⟩))))) (.node 16 (.node 13 (.node 12 (.leaf 11 ⟨.string,1,16,.string ⟨#[]⟩⟩) (.leaf 12 (yI .u64 8))) (.node 14 (.leaf 13 yZ2) (.node 15 (.leaf 14 yZ2) (.leaf 15 (yP 362))))) (.node 19 (.node 17 (.leaf 16 (yP 365)) (.node 18 (.leaf 17 (yP 372)) (.leaf 18 yZ3))) (.node 20 (.leaf 19 yZ3) (.node 21 (.leaf 20 ⟨.interface #[],1,16,.nilIface⟩) (.leaf 21 (yI .i32 4))))))) (.node 34 (.node 27 (.node 24 (.node 23 (.leaf 22 (yS 81)) (.leaf 23 (yS 81))) (.node 25 (.leaf 24 ⟨.array 16 3,16,128,.agg ⟨aS 16 (.int .i64 0)⟩⟩) (.node 26 (.leaf 25 yZ4) (.leaf 26 yZ4)))) (.node 30 (.node 28 (.leaf 27 (yI .i64 8)) (.node 29 (.leaf 28 (yS 36)) (.leaf 29 yZ5))) (.node 31 (.leaf 30 yZ5) (.node 32 (.leaf 31 (yF #[] #[4])) (.leaf 32 (yF #[23] #[4])))))) (.node 40 (.node 36 (.node 35 (.leaf 34 (yF #[23,26] #[30,27])) (.leaf 35 ⟨.array 32 5,32,32,.agg ⟨aS 32 (.int .u8 0)⟩⟩)) (.node 37 (.leaf 36 ⟨.array 32 5,32,32,.agg ⟨aS 32 (.int .u8 0)⟩⟩) (.node 38 (.leaf 37 yZ6) (.leaf 38 yZ6)))) (.node 43 (.node 41 (.leaf 40 (yF #[30] #[38,27])) (.node 42 (.leaf 41 (yS 3)) (.leaf 42 yZ7))) (.node 45 (.leaf 43 yZ7) (.node 47 (.leaf 45 (yF #[30,3] #[43,27])) (.leaf 47 (yF #[30] #[3,27])))))))) (.node 70 (.node 58 (.node 53 (.node 50 (.node 49 (.leaf 48 (yF #[30,30] #[4])) (.leaf 49 (yF #[43,43] #[4]))) (.node 51 (.leaf 50 (yF #[23,26,30,3] #[4])) (.node 52 (.leaf 51 (yF #[] #[23])) (.leaf 52 (yF #[3] #[26]))))) (.node 55 (.node 54 (.leaf 53 (yF #[82,60] #[30,27])) (.leaf 54 yZ8)) (.node 56 (.leaf 55 yZ8) (.node 57 (.leaf 56 yZ9) (.leaf 57 yZ9))))) (.node 63 (.node 60 (.node 59 (.leaf 58 (yS 55)) (.leaf 59 yZ10)) (.node 61 (.leaf 60 yZ10) (.node 62 (.leaf 61 (yF #[30,3] #[30])) (.leaf 62 (yF #[23] #[3,27]))))) (.node 67 (.node 64 (.leaf 63 (yF #[90] #[])) (.node 65 (.leaf 64 (yF #[23,26] #[63])) (.leaf 65 (yF #[23,26,43] #[36])))) (.node 68 (.leaf 67 (yF #[43] #[3,3,27])) (.node 69 (.leaf 68 (yS 43)) (.leaf 69 (yF #[23,26] #[68]))))))) (.node 81 (.node 75 (.node 72 (.node 71 (.leaf 70 (yF #[23] #[36])) (.leaf 71 (yF #[26] #[36]))) (.node 73 (.leaf 72 yZ11) (.node 74 (.leaf 73 yZ11) (.leaf 74 (yF #[43,3] #[73]))))) (.node 78 (.node 76 (.leaf 75 (yF #[36,36,73] #[36])) (.node 77 (.leaf 76 (yF #[28] #[38,27])) (.leaf 77 (yF #[23,23] #[4])))) (.node 79 (.leaf 78 (yF #[28,28] #[4])) (.node 80 (.leaf 79 (yF #[41,41] #[4])) (.leaf 80 yZ12))))) (.node 87 (.node 84 (.node 82 (.leaf 81 yZ12) (.leaf 82 (yS 140))) (.node 85 (.leaf 84 (yF #[82,3,3,3] #[23,27])) (.node 86 (.leaf 85 (yF #[23,86] #[4])) (.leaf 86 (yF #[81] #[4]))))) (.node 91 (.node 89 (.leaf 87 (yF #[41,3] #[41])) (.node 90 (.leaf 89 (yF #[3] #[3,3])) (.leaf 90 (yF #[3,43] #[4])))) (.node 92 (.leaf 91 (yF #[3] #[43,27])) (.node 93 (.leaf 92 (yF #[23,26,43] #[43,27])) (.leaf 93 (yF #[23,26,73] #[36]))))))))) (.node 141 (.node 117 (.node 104 (.node 99 (.node 96 (.node 95 (.leaf 94 (yF #[23,3] #[41])) (.leaf 95 (yF #[23,26,3] #[68]))) (.node 97 (.leaf 96 (yF #[9,98] #[36])) (.node 98 (.leaf 97 (yS 5)) (.leaf 98 (yS 100))))) (.node 101 (.node 100 (.leaf 99 yZ13) (.leaf 100 yZ13)) (.node 102 (.leaf 101 (yF #[3] #[100])) (.node 103 (.leaf 102 (yF #[36] #[100])) (.leaf 103 (yF #[98] #[100])))))) (.node 110 (.node 107 (.node 105 (.leaf 104 (yF #[41] #[36])) (.leaf 105 (yF #[36,41] #[36]))) (.node 108 (.leaf 107 (yF #[28,3,3] #[36,4])) (.node 109 (.leaf 108 (yF #[3] #[3])) (.leaf 109 (yF #[28,3,3] #[36]))))) (.node 114 (.node 111 (.leaf 110 (yS 153)) (.node 112 (.leaf 111 yZ14) (.leaf 112 yZ14))) (.node 115 (.leaf 114 (yF #[82,3,3,3] #[112,27])) (.node 116 (.leaf 115 (yF #[112] #[23,27])) (.leaf 116 (yF #[23,86] #[3]))))))) (.node 130 (.node 123 (.node 120 (.node 119 (.leaf 117 (yI .u64 8)) (.leaf 119 (yF #[117,117] #[117,117]))) (.node 121 (.leaf 120 (yF #[23,43,3] #[27])) (.node 122 (.leaf 121 (yF #[23,26,43,3] #[43])) (.leaf 122 (yF #[9,100] #[36]))))) (.node 127 (.node 124 (.leaf 123 ⟨.func #[98] #[100] af,1,8,.nilFunc⟩) (.node 126 (.leaf 124 (yF #[3,3] #[4])) (.leaf 126 (yF #[100] #[97,27])))) (.node 128 (.leaf 127 (yF #[9,97] #[36])) (.node 129 (.leaf 128 (yF #[28,3,130] #[])) (.leaf 129 (yF #[28,3,36] #[36])))))) (.node 135 (.node 132 (.node 131 (.leaf 130 (yF #[3,28,36] #[])) (.leaf 131 (yF #[117] #[3]))) (.node 133 (.leaf 132 (yF #[] #[36])) (.node 134 (.leaf 133 (yF #[28,36] #[28])) (.leaf 134 (yF #[36,36] #[36]))))) (.node 138 (.node 136 (.leaf 135 (yF #[82,3,3] #[82])) (.node 137 (.leaf 136 (yS 374)) (.leaf 137 yZ15))) (.node 139 (.leaf 138 yZ15) (.node 140 (.leaf 139 yZ16) (.leaf 140 yZ16))))))) (.node 165 (.node 152 (.node 146 (.node 143 (.node 142 (.leaf 141 (yF #[9,3] #[112,27])) (.leaf 142 (yF #[112,112] #[112]))) (.node 144 (.leaf 143 (yF #[112] #[27])) (.node 145 (.leaf 144 yZ17) (.leaf 145 yZ17)))) (.node 149 (.node 147 (.leaf 146 (yS 192)) (.node 148 (.leaf 147 ⟨.array 4 3,4,32,.agg #[.int .i64 0,.int .i64 0,.int .i64 0,.int .i64 0]⟩) (.leaf 148 ⟨.array 4 3,4,32,.agg #[.int .i64 0,.int .i64 0,.int .i64 0,.int .i64 0]⟩))) (.node 150 (.leaf 149 (yS 151)) (.node 151 (.leaf 150 yZ18) (.leaf 151 yZ18))))) (.node 158 (.node 154 (.node 153 (.leaf 152 yZ19) (.leaf 153 yZ19)) (.node 155 (.leaf 154 (yF #[153,3] #[])) (.node 156 (.leaf 155 (yF #[3,3,3] #[1])) (.leaf 156 (yI .u32 4))))) (.node 162 (.node 159 (.leaf 158 (yF #[156,156] #[156,156])) (.node 161 (.leaf 159 (yI .u64 8)) (.leaf 161 (yF #[159,159] #[159,159])))) (.node 163 (.leaf 162 (yP 164)) (.node 164 (.leaf 163 yZ20) (.leaf 164 yZ20)))))) (.node 176 (.node 170 (.node 167 (.node 166 (.leaf 165 (yF #[81] #[27])) (.leaf 166 (yF #[81,26,43,3] #[43,27]))) (.node 168 (.leaf 167 (yF #[100] #[27])) (.node 169 (.leaf 168 (yF #[100] #[97])) (.leaf 169 (yF #[97] #[36]))))) (.node 173 (.node 171 (.leaf 170 (yF #[9,97] #[97])) (.node 172 (.leaf 171 (yF #[156] #[3])) (.leaf 172 (yF #[159] #[3])))) (.node 174 (.leaf 173 (yF #[36,36] #[97])) (.node 175 (.leaf 174 (yF #[82,177] #[])) (.leaf 175 ⟨.func #[41] #[3] af,1,8,.nilFunc⟩))))) (.node 183 (.node 179 (.node 177 (.leaf 176 (yF #[3,3] #[3])) (.leaf 177 (yF #[140,140] #[3]))) (.node 180 (.leaf 179 (yF #[9] #[112,3,27])) (.node 181 (.leaf 180 ⟨.map 9 153,1,8,.map aD⟩) (.leaf 181 (yF #[110] #[110]))))) (.node 187 (.node 185 (.leaf 183 ⟨.func #[225] #[27] af,1,8,.nilFunc⟩) (.node 186 (.leaf 185 (yF #[112] #[9,27])) (.leaf 186 (yF #[] #[27])))) (.node 188 (.leaf 187 (yF #[112] #[3,27])) (.node 189 (.leaf 188 (yF #[9] #[4])) (.leaf 189 ⟨.map 9 4,1,8,.map aD⟩))))))))) (.node 287 (.node 238 (.node 214 (.node 202 (.node 195 (.node 192 (.node 191 (.leaf 190 (yF #[151] #[4])) (.leaf 191 yZ21)) (.node 193 (.leaf 192 yZ21) (.node 194 (.leaf 193 (yF #[151] #[3])) (.leaf 194 (yP 145))))) (.node 199 (.node 196 (.leaf 195 (yF #[151] #[])) (.leaf 196 ⟨.map 3 165,1,8,.map aD⟩)) (.node 200 (.leaf 199 (yF #[100] #[3,4])) (.node 201 (.leaf 200 (yF #[97,100] #[97])) (.leaf 201 ⟨.func #[256] #[36] af,1,8,.nilFunc⟩))))) (.node 207 (.node 204 (.node 203 (.leaf 202 (yF #[3,3,3] #[3,27])) (.leaf 203 (yF #[100] #[4]))) (.node 205 (.leaf 204 (yF #[100] #[3])) (.node 206 (.leaf 205 (yF #[3] #[97])) (.leaf 206 ⟨.array 8 156,8,32,.agg #[.int .u32 0,.int .u32 0,.int .u32 0,.int .u32 0,.int .u32 0,.int .u32 0,.int .u32 0,.int .u32 0]⟩)))) (.node 210 (.node 208 (.leaf 207 (yF #[97] #[97])) (.node 209 (.leaf 208 (yF #[206,97] #[206])) (.leaf 209 (yF #[82,3,177] #[])))) (.node 211 (.leaf 210 (yF #[3] #[4])) (.node 213 (.leaf 211 (yS 265)) (.leaf 213 (yF #[9] #[211,3,27]))))))) (.node 226 (.node 220 (.node 217 (.node 215 (.leaf 214 yZ22) (.leaf 215 yZ22)) (.node 218 (.leaf 217 (yP 219)) (.node 219 (.leaf 218 yZ23) (.leaf 219 yZ23)))) (.node 223 (.node 221 (.leaf 220 (yF #[9] #[])) (.node 222 (.leaf 221 (yF #[] #[9])) (.leaf 222 (yF #[9] #[3])))) (.node 224 (.leaf 223 (yF #[] #[3])) (.node 225 (.leaf 224 (yF #[110] #[153])) (.leaf 225 (yS 186)))))) (.node 231 (.node 228 (.node 227 (.leaf 226 (yP 229)) (.leaf 227 (yS 9))) (.node 229 (.leaf 228 yZ24) (.node 230 (.leaf 229 yZ24) (.leaf 230 ⟨.func #[227] #[] af,1,8,.nilFunc⟩)))) (.node 234 (.node 232 (.leaf 231 (yF #[9] #[227])) (.node 233 (.leaf 232 (yF #[153] #[])) (.leaf 233 (yF #[227,9] #[9])))) (.node 235 (.leaf 234 ⟨.map 3 289,1,8,.map aD⟩) (.node 237 (.leaf 235 (yF #[] #[234])) (.leaf 237 (yF #[234,151] #[148,4])))))))) (.node 262 (.node 250 (.node 245 (.node 240 (.node 239 (.leaf 238 ⟨.array 16 3,16,128,.agg ⟨aS 16 (.int .i64 0)⟩⟩) (.leaf 239 yZ25)) (.node 242 (.leaf 240 yZ25) (.node 244 (.leaf 242 (yF #[153] #[240,4])) (.leaf 244 (yF #[112] #[3,3,26,4]))))) (.node 247 (.node 246 (.leaf 245 (yF #[9,9] #[9])) (.leaf 246 (yF #[148] #[4]))) (.node 248 (.leaf 247 (yF #[149,190] #[4])) (.node 249 (.leaf 248 (yF #[3,3] #[3,27])) (.leaf 249 yZ26))))) (.node 256 (.node 253 (.node 252 (.leaf 250 yZ26) (.leaf 252 ⟨.map 3 250,1,8,.map aD⟩)) (.node 254 (.leaf 253 ⟨.func #[3,41] #[27] af,1,8,.nilFunc⟩) (.node 255 (.leaf 254 (yF #[4] #[3])) (.leaf 255 (yF #[97,3] #[97]))))) (.node 259 (.node 257 (.leaf 256 (yS 97)) (.node 258 (.leaf 257 ⟨.array 64 156,64,256,.agg ⟨aS 64 (.int .u32 0)⟩⟩) (.leaf 258 (yF #[97] #[257])))) (.node 260 (.leaf 259 (yF #[] #[257])) (.node 261 (.leaf 260 (yF #[156,3] #[156])) (.leaf 261 (yF #[82,3,3,177] #[]))))))) (.node 275 (.node 269 (.node 264 (.node 263 (.leaf 262 (yF #[82,3,3,3,177] #[])) (.leaf 263 (yF #[9,5] #[3]))) (.node 265 (.leaf 264 yZ27) (.node 267 (.leaf 265 yZ27) (.leaf 267 (yF #[9] #[265,27]))))) (.node 272 (.node 270 (.leaf 269 (yF #[3] #[265,4])) (.node 271 (.leaf 270 (yF #[9] #[3,4])) (.leaf 271 (yF #[110,272] #[4])))) (.node 273 (.leaf 272 (yF #[153] #[4])) (.node 274 (.leaf 273 (yF #[3] #[192])) (.leaf 274 (yF #[] #[151])))))) (.node 280 (.node 277 (.node 276 (.leaf 275 ⟨.array 256 5,256,256,.agg ⟨aS 256 (.int .u8 0)⟩⟩) (.leaf 276 (yF #[9,277] #[227]))) (.node 278 (.leaf 277 (yF #[21] #[4])) (.node 279 (.leaf 278 (yF #[3] #[])) (.leaf 279 (yP 281))))) (.node 283 (.node 281 (.leaf 280 yZ28) (.node 282 (.leaf 281 yZ28) (.leaf 282 ⟨.interface #[("Error",221)],1,16,.nilIface⟩))) (.node 285 (.leaf 283 ⟨.interface #[("Error",221)],1,16,.nilIface⟩) (.node 286 (.leaf 285 (yF #[9] #[3,283])) (.leaf 286 (yS 148))))))))) (.node 332 (.node 309 (.node 297 (.node 292 (.node 289 (.node 288 (.leaf 287 (yF #[286] #[148,4])) (.leaf 288 yZ29)) (.node 290 (.leaf 289 yZ29) (.node 291 (.leaf 290 (yF #[3] #[289])) (.leaf 291 ⟨.array 16 148,64,512,.agg ⟨aS 64 (.int .i64 0)⟩⟩)))) (.node 294 (.node 293 (.leaf 292 (yF #[] #[291])) (.leaf 293 (yF #[] #[240]))) (.node 295 (.leaf 294 (yF #[192] #[240])) (.node 296 (.leaf 295 (yF #[240] #[240,4])) (.leaf 296 (yS 240)))))) (.node 303 (.node 299 (.node 298 (.leaf 297 (yS 4)) (.leaf 298 (yF #[238] #[26]))) (.node 300 (.leaf 299 (yF #[9,5] #[9])) (.node 301 (.leaf 300 ⟨.array 256 4,256,256,.agg ⟨aS 256 (.bool ae)⟩⟩) (.leaf 301 ⟨.array 256 4,256,256,.agg ⟨aS 256 (.bool ae)⟩⟩)))) (.node 306 (.node 304 (.leaf 303 (yF #[9] #[301,4])) (.node 305 (.leaf 304 (yF #[9,305] #[9])) (.leaf 305 (yP 301)))) (.node 307 (.leaf 306 ⟨.map 3 3,1,8,.map aD⟩) (.node 308 (.leaf 307 (yF #[149,190] #[3])) (.leaf 308 (yF #[3] #[3,27]))))))) (.node 320 (.node 314 (.node 311 (.node 310 (.leaf 309 (yF #[5] #[4])) (.leaf 310 (yF #[9,309] #[3]))) (.node 312 (.leaf 311 (yF #[9] #[3,27])) (.node 313 (.leaf 312 ⟨.map 5 9,1,8,.map aD⟩) (.leaf 313 (yF #[9,9] #[4]))))) (.node 317 (.node 315 (.leaf 314 (yF #[227,9] #[3])) (.node 316 (.leaf 315 (yF #[110,272] #[3])) (.leaf 316 (yF #[274,223] #[151])))) (.node 318 (.leaf 317 (yS 319)) (.node 319 (.leaf 318 yZ30) (.leaf 319 yZ30))))) (.node 325 (.node 322 (.node 321 (.leaf 320 (yF #[321,21] #[4])) (.leaf 321 (yP 335))) (.node 323 (.leaf 322 (yF #[3] #[9])) (.node 324 (.leaf 323 ⟨.func #[9,227] #[] af,1,8,.nilFunc⟩) (.leaf 324 (yF #[148] #[]))))) (.node 329 (.node 326 (.leaf 325 (yF #[151,3] #[])) (.node 328 (.leaf 326 (yP 5)) (.leaf 328 (yF #[9] #[21,3])))) (.node 330 (.leaf 329 (yF #[9,21] #[4])) (.node 331 (.leaf 330 (yF #[] #[148])) (.leaf 331 ⟨.func #[3,227] #[151] af,1,8,.nilFunc⟩))))))) (.node 354 (.node 343 (.node 337 (.node 334 (.node 333 (.leaf 332 (yS 338)) (.leaf 333 (yS 341))) (.node 335 (.leaf 334 yZ31) (.node 336 (.leaf 335 yZ31) (.leaf 336 (yI .u16 2))))) (.node 340 (.node 338 (.leaf 337 yZ32) (.node 339 (.leaf 338 yZ32) (.leaf 339 (yF #[332,336] #[4])))) (.node 341 (.leaf 340 yZ33) (.node 342 (.leaf 341 yZ33) (.leaf 342 (yF #[333,156] #[4])))))) (.node 348 (.node 345 (.node 344 (.leaf 343 (yF #[41,3] #[3])) (.leaf 344 ⟨.unsafePointer,1,8,.pointer aD⟩)) (.node 346 (.leaf 345 (yF #[344] #[344])) (.node 347 (.leaf 346 (yF #[9,21] #[3])) (.leaf 347 (yP 338))))) (.node 351 (.node 349 (.leaf 348 (yP 341)) (.node 350 (.leaf 349 (yF #[2,3] #[9])) (.leaf 350 yZ34))) (.node 352 (.leaf 351 yZ34) (.node 353 (.leaf 352 ⟨.array 16 351,32,32,.agg ⟨aS 32 (.int .u8 0)⟩⟩) (.leaf 353 (yF #[9,9] #[3]))))))) (.node 366 (.node 360 (.node 357 (.node 355 (.leaf 354 ⟨.array 24 5,24,24,.agg ⟨aS 24 (.int .u8 0)⟩⟩) (.leaf 355 (yF #[97,159] #[]))) (.node 358 (.leaf 357 (yF #[97,159,3,4,4] #[97,9])) (.node 359 (.leaf 358 ⟨.array 20 159,20,160,.agg ⟨aS 20 (.int .u64 0)⟩⟩) (.leaf 359 ⟨.array 65 5,65,65,.agg ⟨aS 65 (.int .u8 0)⟩⟩)))) (.node 363 (.node 361 (.leaf 360 ⟨.array 64 5,64,64,.agg ⟨aS 64 (.int .u8 0)⟩⟩) (.node 362 (.leaf 361 yZ35) (.leaf 362 yZ35))) (.node 364 (.leaf 363 ⟨.array 0 16,0,0,.agg #[]⟩) (.node 365 (.leaf 364 yZ36) (.leaf 365 yZ36))))) (.node 371 (.node 368 (.node 367 (.leaf 366 (yI .u8 1)) (.leaf 367 (yI .u8 1))) (.node 369 (.leaf 368 (yF #[344,344] #[4])) (.node 370 (.leaf 369 (yI .i32 4)) (.leaf 370 (yI .i32 4))))) (.node 374 (.node 372 (.leaf 371 yZ37) (.node 373 (.leaf 372 yZ37) (.leaf 373 yZ38))) (.node 375 (.leaf 374 yZ38) (.node 376 (.leaf 375 ⟨.func #[41] #[4] af,1,8,.nilFunc⟩) (.leaf 376 (yF #[3] #[159])))))))))))
noncomputable def fnT:Tr Func:=(.node 147 (.node 75 (.node 39 (.node 21 (.node 12 (.node 7 (.node 5 (.node 4 (.leaf 3 Tryz.f3) (.leaf 4 Tryz.f4)) (.node 6 (.leaf 5 Tryz.f5) (.leaf 6 Tryz.f6))) (.node 9 (.node 8 (.leaf 7 Tryz.f7) (.leaf 8 Tryz.f8)) (.node 10 (.leaf 9 Tryz.f9) (.node 11 (.leaf 10 Tryz.f10) (.leaf 11 Tryz.f11))))) (.node 16 (.node 14 (.node 13 (.leaf 12 Tryz.f12) (.leaf 13 Tryz.f13)) (.node 15 (.leaf 14 Tryz.f14) (.leaf 15 Tryz.f15))) (.node 18 (.node 17 (.leaf 16 Tryz.f16) (.leaf 17 Tryz.f17)) (.node 19 (.leaf 18 Tryz.f18) (.node 20 (.leaf 19 Tryz.f19) (.leaf 20 Tryz.f20)))))) (.node 30 (.node 25 (.node 23 (.node 22 (.leaf 21 Tryz.f21) (.leaf 22 Tryz.f22)) (.node 24 (.leaf 23 Tryz.f23) (.leaf 24 Tryz.f24))) (.node 27 (.node 26 (.leaf 25 Tryz.f25) (.leaf 26 Tryz.f26)) (.node 28 (.leaf 27 Tryz.f27) (.node 29 (.leaf 28 Tryz.f28) (.leaf 29 Tryz.f29))))) (.node 34 (.node 32 (.node 31 (.leaf 30 Tryz.f30) (.leaf 31 Tryz.f31)) (.node 33 (.leaf 32 Tryz.f32) (.leaf 33 Tryz.f33))) (.node 36 (.node 35 (.leaf 34 Tryz.f34) (.leaf 35 Tryz.f35)) (.node 37 (.leaf 36 Tryz.f36) (.node 38 (.leaf 37 Tryz.f37) (.leaf 38 Tryz.f38))))))) (.node 57 (.node 48 (.node 43 (.node 41 (.node 40 (.leaf 39 Tryz.f39) (.leaf 40 Tryz.f40)) (.node 42 (.leaf 41 Tryz.f41) (.leaf 42 Tryz.f42))) (.node 45 (.node 44 (.leaf 43 Tryz.f43) (.leaf 44 Tryz.f44)) (.node 46 (.leaf 45 Tryz.f45) (.node 47 (.leaf 46 Tryz.f46) (.leaf 47 Tryz.f47))))) (.node 52 (.node 50 (.node 49 (.leaf 48 Tryz.f48) (.leaf 49 Tryz.f49)) (.node 51 (.leaf 50 Tryz.f50) (.leaf 51 Tryz.f51))) (.node 54 (.node 53 (.leaf 52 Tryz.f52) (.leaf 53 Tryz.f53)) (.node 55 (.leaf 54 Tryz.f54) (.node 56 (.leaf 55 Tryz.f55) (.leaf 56 Tryz.f56)))))) (.node 66 (.node 61 (.node 59 (.node 58 (.leaf 57 Tryz.f57) (.leaf 58 Tryz.f58)) (.node 60 (.leaf 59 Tryz.f59) (.leaf 60 Tryz.f60))) (.node 63 (.node 62 (.leaf 61 Tryz.f61) (.leaf 62 Tryz.f62)) (.node 64 (.leaf 63 Tryz.f63) (.node 65 (.leaf 64 Tryz.f64) (.leaf 65 Tryz.f65))))) (.node 70 (.node 68 (.node 67 (.leaf 66 Tryz.f66) (.leaf 67 Tryz.f67)) (.node 69 (.leaf 68 Tryz.f68) (.leaf 69 Tryz.f69))) (.node 72 (.node 71 (.leaf 70 Tryz.f70) (.leaf 71 Tryz.f71)) (.node 73 (.leaf 72 Tryz.f72) (.node 74 (.leaf 73 Tryz.f73) (.leaf 74 Tryz.f74)))))))) (.node 111 (.node 93 (.node 84 (.node 79 (.node 77 (.node 76 (.leaf 75 Tryz.f75) (.leaf 76 Tryz.f76)) (.node 78 (.leaf 77 Tryz.f77) (.leaf 78 Tryz.f78))) (.node 81 (.node 80 (.leaf 79 Tryz.f79) (.leaf 80 Tryz.f80)) (.node 82 (.leaf 81 Tryz.f81) (.node 83 (.leaf 82 Tryz.f82) (.leaf 83 Tryz.f83))))) (.node 88 (.node 86 (.node 85 (.leaf 84 Tryz.f84) (.leaf 85 Tryz.f85)) (.node 87 (.leaf 86 Tryz.f86) (.leaf 87 Tryz.f87))) (.node 90 (.node 89 (.leaf 88 Tryz.f88) (.leaf 89 Tryz.f89)) (.node 91 (.leaf 90 Tryz.f90) (.node 92 (.leaf 91 Tryz.f91) (.leaf 92 Tryz.f92)))))) (.node 102 (.node 97 (.node 95 (.node 94 (.leaf 93 Tryz.f93) (.leaf 94 Tryz.f94)) (.node 96 (.leaf 95 Tryz.f95) (.leaf 96 Tryz.f96))) (.node 99 (.node 98 (.leaf 97 Tryz.f97) (.leaf 98 Tryz.f98)) (.node 100 (.leaf 99 Tryz.f99) (.node 101 (.leaf 100 Tryz.f100) (.leaf 101 Tryz.f101))))) (.node 106 (.node 104 (.node 103 (.leaf 102 Tryz.f102) (.leaf 103 Tryz.f103)) (.node 105 (.leaf 104 Tryz.f104) (.leaf 105 Tryz.f105))) (.node 108 (.node 107 (.leaf 106 Tryz.f106) (.leaf 107 Tryz.f107)) (.node 109 (.leaf 108 Tryz.f108) (.node 110 (.leaf 109 Tryz.f109) (.leaf 110 Tryz.f110))))))) (.node 129 (.node 120 (.node 115 (.node 113 (.node 112 (.leaf 111 Tryz.f111) (.leaf 112 Tryz.f112)) (.node 114 (.leaf 113 Tryz.f113) (.leaf 114 Tryz.f114))) (.node 117 (.node 116 (.leaf 115 Tryz.f115) (.leaf 116 Tryz.f116)) (.node 118 (.leaf 117 Tryz.f117) (.node 119 (.leaf 118 Tryz.f118) (.leaf 119 Tryz.f119))))) (.node 124 (.node 122 (.node 121 (.leaf 120 Tryz.f120) (.leaf 121 Tryz.f121)) (.node 123 (.leaf 122 Tryz.f122) (.leaf 123 Tryz.f123))) (.node 126 (.node 125 (.leaf 124 Tryz.f124) (.leaf 125 Tryz.f125)) (.node 127 (.leaf 126 Tryz.f126) (.node 128 (.leaf 127 Tryz.f127) (.leaf 128 Tryz.f128)))))) (.node 138 (.node 133 (.node 131 (.node 130 (.leaf 129 Tryz.f129) (.leaf 130 Tryz.f130)) (.node 132 (.leaf 131 Tryz.f131) (.leaf 132 Tryz.f132))) (.node 135 (.node 134 (.leaf 133 Tryz.f133) (.leaf 134 Tryz.f134)) (.node 136 (.leaf 135 Tryz.f135) (.node 137 (.leaf 136 Tryz.f136) (.leaf 137 Tryz.f137))))) (.node 142 (.node 140 (.node 139 (.leaf 138 Tryz.f138) (.leaf 139 Tryz.f139)) (.node 141 (.leaf 140 Tryz.f140) (.leaf 141 Tryz.f141))) (.node 144 (.node 143 (.leaf 142 Tryz.f142) (.leaf 143 Tryz.f143)) (.node 145 (.leaf 144 Tryz.f144) (.node 146 (.leaf 145 Tryz.f145) (.leaf 146 Tryz.f146))))))))) (.node 219 (.node 183 (.node 165 (.node 156 (.node 151 (.node 149 (.node 148 (.leaf 147 Tryz.f147) (.leaf 148 Tryz.f148)) (.node 150 (.leaf 149 Tryz.f149) (.leaf 150 Tryz.f150))) (.node 153 (.node 152 (.leaf 151 Tryz.f151) (.leaf 152 Tryz.f152)) (.node 154 (.leaf 153 Tryz.f153) (.node 155 (.leaf 154 Tryz.f154) (.leaf 155 Tryz.f155))))) (.node 160 (.node 158 (.node 157 (.leaf 156 Tryz.f156) (.leaf 157 Tryz.f157)) (.node 159 (.leaf 158 Tryz.f158) (.leaf 159 Tryz.f159))) (.node 162 (.node 161 (.leaf 160 Tryz.f160) (.leaf 161 Tryz.f161)) (.node 163 (.leaf 162 Tryz.f162) (.node 164 (.leaf 163 Tryz.f163) (.leaf 164 Tryz.f164)))))) (.node 174 (.node 169 (.node 167 (.node 166 (.leaf 165 Tryz.f165) (.leaf 166 Tryz.f166)) (.node 168 (.leaf 167 Tryz.f167) (.leaf 168 Tryz.f168))) (.node 171 (.node 170 (.leaf 169 Tryz.f169) (.leaf 170 Tryz.f170)) (.node 172 (.leaf 171 Tryz.f171) (.node 173 (.leaf 172 Tryz.f172) (.leaf 173 Tryz.f173))))) (.node 178 (.node 176 (.node 175 (.leaf 174 Tryz.f174) (.leaf 175 Tryz.f175)) (.node 177 (.leaf 176 Tryz.f176) (.leaf 177 Tryz.f177))) (.node 180 (.node 179 (.leaf 178 Tryz.f178) (.leaf 179 Tryz.f179)) (.node 181 (.leaf 180 Tryz.f180) (.node 182 (.leaf 181 Tryz.f181) (.leaf 182 Tryz.f182))))))) (.node 201 (.node 192 (.node 187 (.node 185 (.node 184 (.leaf 183 Tryz.f183) (.leaf 184 Tryz.f184)) (.node 186 (.leaf 185 Tryz.f185) (.leaf 186 Tryz.f186))) (.node 189 (.node 188 (.leaf 187 Tryz.f187) (.leaf 188 Tryz.f188)) (.node 190 (.leaf 189 Tryz.f189) (.node 191 (.leaf 190 Tryz.f190) (.leaf 191 Tryz.f191))))) (.node 196 (.node 194 (.node 193 (.leaf 192 Tryz.f192) (.leaf 193 Tryz.f193)) (.node 195 (.leaf 194 Tryz.f194) (.leaf 195 Tryz.f195))) (.node 198 (.node 197 (.leaf 196 Tryz.f196) (.leaf 197 Tryz.f197)) (.node 199 (.leaf 198 Tryz.f198) (.node 200 (.leaf 199 Tryz.f199) (.leaf 200 Tryz.f200)))))) (.node 210 (.node 205 (.node 203 (.node 202 (.leaf 201 Tryz.f201) (.leaf 202 Tryz.f202)) (.node 204 (.leaf 203 Tryz.f203) (.leaf 204 Tryz.f204))) (.node 207 (.node 206 (.leaf 205 Tryz.f205) (.leaf 206 Tryz.f206)) (.node 208 (.leaf 207 Tryz.f207) (.node 209 (.leaf 208 Tryz.f208) (.leaf 209 Tryz.f209))))) (.node 214 (.node 212 (.node 211 (.leaf 210 Tryz.f210) (.leaf 211 Tryz.f211)) (.node 213 (.leaf 212 Tryz.f212) (.leaf 213 Tryz.f213))) (.node 216 (.node 215 (.leaf 214 Tryz.f214) (.leaf 215 Tryz.f215)) (.node 217 (.leaf 216 Tryz.f216) (.node 218 (.leaf 217 Tryz.f217) (.leaf 218 Tryz.f218)))))))) (.node 255 (.node 237 (.node 228 (.node 223 (.node 221 (.node 220 (.leaf 219 Tryz.f219) (.leaf 220 Tryz.f220)) (.node 222 (.leaf 221 Tryz.f221) (.leaf 222 Tryz.f222))) (.node 225 (.node 224 (.leaf 223 Tryz.f223) (.leaf 224 Tryz.f224)) (.node 226 (.leaf 225 Tryz.f225) (.node 227 (.leaf 226 Tryz.f226) (.leaf 227 Tryz.f227))))) (.node 232 (.node 230 (.node 229 (.leaf 228 Tryz.f228) (.leaf 229 Tryz.f229)) (.node 231 (.leaf 230 Tryz.f230) (.leaf 231 Tryz.f231))) (.node 234 (.node 233 (.leaf 232 Tryz.f232) (.leaf 233 Tryz.f233)) (.node 235 (.leaf 234 Tryz.f234) (.node 236 (.leaf 235 Tryz.f235) (.leaf 236 Tryz.f236)))))) (.node 246 (.node 241 (.node 239 (.node 238 (.leaf 237 Tryz.f237) (.leaf 238 Tryz.f238)) (.node 240 (.leaf 239 Tryz.f239) (.leaf 240 Tryz.f240))) (.node 243 (.node 242 (.leaf 241 Tryz.f241) (.leaf 242 Tryz.f242)) (.node 244 (.leaf 243 Tryz.f243) (.node 245 (.leaf 244 Tryz.f244) (.leaf 245 Tryz.f245))))) (.node 250 (.node 248 (.node 247 (.leaf 246 Tryz.f246) (.leaf 247 Tryz.f247)) (.node 249 (.leaf 248 Tryz.f248) (.leaf 249 Tryz.f249))) (.node 252 (.node 251 (.leaf 250 Tryz.f250) (.leaf 251 Tryz.f251)) (.node 253 (.leaf 252 Tryz.f252) (.node 254 (.leaf 253 Tryz.f253) (.leaf 254 Tryz.f254))))))) (.node 277 (.node 267 (.node 260 (.node 258 (.node 257 (.leaf 255 Tryz.f255) (.leaf 257 Tryz.f257)) (.node 259 (.leaf 258 Tryz.f258) (.leaf 259 Tryz.f259))) (.node 262 (.node 261 (.leaf 260 Tryz.f260) (.leaf 261 Tryz.f261)) (.node 263 (.leaf 262 Tryz.f262) (.node 266 (.leaf 263 Tryz.f263) (.leaf 266 Tryz.f266))))) (.node 271 (.node 269 (.node 268 (.leaf 267 Tryz.f267) (.leaf 268 Tryz.f268)) (.node 270 (.leaf 269 Tryz.f269) (.leaf 270 Tryz.f270))) (.node 274 (.node 273 (.leaf 271 Tryz.f271) (.leaf 273 Tryz.f273)) (.node 275 (.leaf 274 Tryz.f274) (.node 276 (.leaf 275 Tryz.f275) (.leaf 276 Tryz.f276)))))) (.node 306 (.node 281 (.node 279 (.node 278 (.leaf 277 Tryz.f277) (.leaf 278 Tryz.f278)) (.node 280 (.leaf 279 Tryz.f279) (.leaf 280 Tryz.f280))) (.node 303 (.node 282 (.leaf 281 Tryz.f281) (.leaf 282 Tryz.f282)) (.node 304 (.leaf 303 Tryz.f303) (.node 305 (.leaf 304 Tryz.f304) (.leaf 305 Tryz.f305))))) (.node 311 (.node 308 (.node 307 (.leaf 306 Tryz.f306) (.leaf 307 Tryz.f307)) (.node 309 (.leaf 308 Tryz.f308) (.node 310 (.leaf 309 Tryz.f309) (.leaf 310 Tryz.f310)))) (.node 313 (.node 312 (.leaf 311 Tryz.f311) (.leaf 312 Tryz.f312)) (.node 314 (.leaf 313 Tryz.f313) (.node 315 (.leaf 314 Tryz.f314) (.leaf 315 Tryz.f315))))))))))
def encF(fl:Bool):(th:Th)->domT th->List (SV thy)
  | .ints,(x:Int)=> [.int fl .i64 (x)]
  | .u32s,(x:Int)=> [.int fl .u32 (x)]
  | .w64,(x:Int)=> [.int fl .u32 (x)]
  | .ins,(x:Ins)=> [.int fl .i64 (bG (x)),.int fl .i64 (cd (x)),.int fl .i64 (iB (x))]
  | .sts,(x:St)=> [.int fl .i64 (be (x)),.int fl .i64 (aQ (x)),.int fl .i64 (av (x)),.int fl .i64 (aw (x)),.psl Th.ints (aF (x)) ae]
  | .bys,(x:Int)=> [.int ae .u8 (x)]
  | .vals,(x:Val)=> [.int fl .i64 (Val.k (x)),.int fl .i64 (Val.n (x)),.psl Th.bys (Val.b (x)) ae,.psl Th.vals (Val.l (x)) ae]
  | .byss,(x:List (Int))=> [.psl Th.bys (x) ae]
  | .opns,(x:Opn)=>((.int fl .i64 (Opn.pc (x)))::(.int fl .i64 (Opn.fuel (x)))::(.int fl .i64 (Opn.status (x)))::(.int fl .i64 (Opn.clause (x)))::(.psl Th.ints (Opn.top (x)) ae)::(.int fl .i64 (Opn.depth (x)))::(.int fl .u8 (aa (cP (x)) 0 0))::(.int fl .u8 (aa (cP (x)) 1 0))::(.int fl .u8 (aa (cP (x)) 2 0))::(.int fl .u8 (aa (cP (x)) 3 0))::(.int fl .u8 (aa (cP (x)) 4 0))::(.int fl .u8 (aa (cP (x)) 5 0))::(.int fl .u8 (aa (cP (x)) 6 0))::(.int fl .u8 (aa (cP (x)) 7 0))::(.int fl .u8 (aa (cP (x)) 8 0))::(.int fl .u8 (aa (cP (x)) 9 0))::(.int fl .u8 (aa (cP (x)) 10 0))::(.int fl .u8 (aa (cP (x)) 11 0))::(.int fl .u8 (aa (cP (x)) 12 0))::(.int fl .u8 (aa (cP (x)) 13 0))::(.int fl .u8 (aa (cP (x)) 14 0))::(.int fl .u8 (aa (cP (x)) 15 0))::(.int fl .u8 (aa (cP (x)) 16 0))::(.int fl .u8 (aa (cP (x)) 17 0))::(.int fl .u8 (aa (cP (x)) 18 0))::(.int fl .u8 (aa (cP (x)) 19 0))::(.int fl .u8 (aa (cP (x)) 20 0))::(.int fl .u8 (aa (cP (x)) 21 0))::(.int fl .u8 (aa (cP (x)) 22 0))::(.int fl .u8 (aa (cP (x)) 23 0))::(.int fl .u8 (aa (cP (x)) 24 0))::(.int fl .u8 (aa (cP (x)) 25 0))::(.int fl .u8 (aa (cP (x)) 26 0))::(.int fl .u8 (aa (cP (x)) 27 0))::(.int fl .u8 (aa (cP (x)) 28 0))::(.int fl .u8 (aa (cP (x)) 29 0))::(.int fl .u8 (aa (cP (x)) 30 0))::(.int fl .u8 (aa (cP (x)) 31 0)):: [])
  | .envs,(x:Env)=>((.int fl .i64 (bC (x)))::(.int fl .i64 (bM (x)))::(.int fl .i64 (bN (x)))::(.int fl .i64 (bO (x)))::(.int fl .i64 (bP (x)))::(.int fl .i64 (bQ (x)))::(.int fl .i64 (bR (x)))::(.int fl .i64 (bK (x)))::(.int fl .i64 (bS (x)))::(.int fl .i64 (bT (x)))::(.int fl .i64 (bL (x)))::(.int fl .i64 (bp (x)))::(.int fl .i64 (bj (x)))::(.int fl .i64 (bq (x)))::(.int fl .i64 (bk (x)))::(.int fl .i64 (br (x)))::(.int fl .i64 (bm (x))):: [])
  | .digs,(x:List Int)=>((.int fl .u8 (aa (x) 0 0))::(.int fl .u8 (aa (x) 1 0))::(.int fl .u8 (aa (x) 2 0))::(.int fl .u8 (aa (x) 3 0))::(.int fl .u8 (aa (x) 4 0))::(.int fl .u8 (aa (x) 5 0))::(.int fl .u8 (aa (x) 6 0))::(.int fl .u8 (aa (x) 7 0))::(.int fl .u8 (aa (x) 8 0))::(.int fl .u8 (aa (x) 9 0))::(.int fl .u8 (aa (x) 10 0))::(.int fl .u8 (aa (x) 11 0))::(.int fl .u8 (aa (x) 12 0))::(.int fl .u8 (aa (x) 13 0))::(.int fl .u8 (aa (x) 14 0))::(.int fl .u8 (aa (x) 15 0))::(.int fl .u8 (aa (x) 16 0))::(.int fl .u8 (aa (x) 17 0))::(.int fl .u8 (aa (x) 18 0))::(.int fl .u8 (aa (x) 19 0))::(.int fl .u8 (aa (x) 20 0))::(.int fl .u8 (aa (x) 21 0))::(.int fl .u8 (aa (x) 22 0))::(.int fl .u8 (aa (x) 23 0))::(.int fl .u8 (aa (x) 24 0))::(.int fl .u8 (aa (x) 25 0))::(.int fl .u8 (aa (x) 26 0))::(.int fl .u8 (aa (x) 27 0))::(.int fl .u8 (aa (x) 28 0))::(.int fl .u8 (aa (x) 29 0))::(.int fl .u8 (aa (x) 30 0))::(.int fl .u8 (aa (x) 31 0)):: [])
def Ziz:List (SV thy)->Option (Int)
  | [t]=>(gI .i64 t).bind λj=>ah (j)
  |_=>aD
def Zi0:List (SV thy)->Option (Int)
  | [t]=>(gI .u32 t).bind λj=>ah (j)
  |_=>aD
def Zn4:List (SV thy)->Option (Int)
  | [t]=>(gI .u32 t).bind λj=>ah (j)
  |_=>aD
def Zn5:List (SV thy)->Option (Ins)
  | [J,R,U]=>(gI .i64 J).bind λj=>(gI .i64 R).bind λt=>(gI .i64 U).bind λI=>ah (Ins.mk (j) (t) (I))
  |_=>aD
def Zn6:List (SV thy)->Option (St)
  | [U,c1,c2,c3,c4]=>(gI .i64 U).bind λj=>(gI .i64 c1).bind λt=>(gI .i64 c2).bind λI=>(gI .i64 c3).bind λJ=>(Zi6 (Y:=thy) Th.ints c4).bind λR=>ah (St.mk (j) (t) (I) (J) (R))
  |_=>aD
def Zn7:List (SV thy)->Option (Int)
  | [t]=>(gI .u8 t).bind λj=>ah (j)
  |_=>aD
def Zi1:List (SV thy)->Option (Val)
  | [R,U,c2,c3]=>(gI .i64 R).bind λj=>(gI .i64 U).bind λt=>(Zi6 (Y:=thy) Th.bys c2).bind λI=>(Zi6 (Y:=thy) Th.vals c3).bind λJ=>ah (Val.mk (j) (t) (I) (J))
  |_=>aD
def Zi2:List (SV thy)->Option (List (Int))
  | [t]=>(Zi6 (Y:=thy) Th.bys t).bind λj=>ah (j)
  |_=>aD
def Zi3:List (SV thy)->Option (Opn)
  |(c0::c1::c2::c3::c4::c5::c6::c7::c8::c9::e4::e5::e6::e7::e8::e9::f4::f5::f6::f7::f8::f9::g0::g1::g2::g3::g4::g5::g6::g7::g8::g9::h0::h1::h2::h3::h4::h5:: [])=>(gI .i64 c0).bind λj=>(gI .i64 c1).bind λt=>(gI .i64 c2).bind λa2=>(gI .i64 c3).bind λa3=>(Zi6 (Y:=thy) Th.ints c4).bind λa4=>(gI .i64 c5).bind λa5=>(gI .u8 c6).bind λa6=>(gI .u8 c7).bind λa7=>(gI .u8 c8).bind λa8=>(gI .u8 c9).bind λa9=>(gI .u8 e4).bind λI=>(gI .u8 e5).bind λJ=>(gI .u8 e6).bind λR=>(gI .u8 e7).bind λU=>(gI .u8 e8).bind λa0=>(gI .u8 e9).bind λa1=>(gI .u8 f4).bind λb0=>(gI .u8 f5).bind λb3=>(gI .u8 f6).bind λb4=>(gI .u8 f7).bind λb5=>(gI .u8 f8).bind λb6=>(gI .u8 f9).bind λb7=>(gI .u8 g0).bind λb8=>(gI .u8 g1).bind λb9=>(gI .u8 g2).bind λd0=>(gI .u8 g3).bind λd1=>(gI .u8 g4).bind λd2=>(gI .u8 g5).bind λd3=>(gI .u8 g6).bind λd4=>(gI .u8 g7).bind λd5=>(gI .u8 g8).bind λd6=>(gI .u8 g9).bind λd7=>(gI .u8 h0).bind λd8=>(gI .u8 h1).bind λd9=>(gI .u8 h2).bind λe0=>(gI .u8 h3).bind λe1=>(gI .u8 h4).bind λe2=>(gI .u8 h5).bind λe3=>ah (Opn.mk (j) (t) (a2) (a3) (a4) (a5) ([a6,a7,a8,a9,I,J,R,U,a0,a1,b0,b3,b4,b5,b6,b7,b8,b9,d0,d1,d2,d3,d4,d5,d6,d7,d8,d9,e0,e1,e2,e3]))
  |_=>aD
def Zi4:List (SV thy)->Option (Env)
  |(c0::c1::c2::c3::c4::c5::c6::c7::c8::c9::b3::b4::b5::b6::b7::b8::b9:: [])=>(gI .i64 c0).bind λj=>(gI .i64 c1).bind λt=>(gI .i64 c2).bind λa2=>(gI .i64 c3).bind λa3=>(gI .i64 c4).bind λa4=>(gI .i64 c5).bind λa5=>(gI .i64 c6).bind λa6=>(gI .i64 c7).bind λa7=>(gI .i64 c8).bind λa8=>(gI .i64 c9).bind λa9=>(gI .i64 b3).bind λI=>(gI .i64 b4).bind λJ=>(gI .i64 b5).bind λR=>(gI .i64 b6).bind λU=>(gI .i64 b7).bind λa0=>(gI .i64 b8).bind λa1=>(gI .i64 b9).bind λb0=>ah (Env.mk j t a2 a3 a4 a5 a6 a7 a8 a9 I J R U a0 a1 b0)
  |_=>aD
def Zi5:List (SV thy)->Option (List Int)
  |(c0::c1::c2::c3::c4::c5::c6::c7::c8::c9::d8::d9::e0::e1::e2::e3::e4::e5::e6::e7::e8::e9::f4::f5::f6::f7::f8::f9::g0::g1::g2::g3:: [])=>(gI .u8 c0).bind λj=>(gI .u8 c1).bind λt=>(gI .u8 c2).bind λa2=>(gI .u8 c3).bind λa3=>(gI .u8 c4).bind λa4=>(gI .u8 c5).bind λa5=>(gI .u8 c6).bind λa6=>(gI .u8 c7).bind λa7=>(gI .u8 c8).bind λa8=>(gI .u8 c9).bind λa9=>(gI .u8 d8).bind λI=>(gI .u8 d9).bind λJ=>(gI .u8 e0).bind λR=>(gI .u8 e1).bind λU=>(gI .u8 e2).bind λa0=>(gI .u8 e3).bind λa1=>(gI .u8 e4).bind λb0=>(gI .u8 e5).bind λb3=>(gI .u8 e6).bind λb4=>(gI .u8 e7).bind λb5=>(gI .u8 e8).bind λb6=>(gI .u8 e9).bind λb7=>(gI .u8 f4).bind λb8=>(gI .u8 f5).bind λb9=>(gI .u8 f6).bind λd0=>(gI .u8 f7).bind λd1=>(gI .u8 f8).bind λd2=>(gI .u8 f9).bind λd3=>(gI .u8 g0).bind λd4=>(gI .u8 g1).bind λd5=>(gI .u8 g2).bind λd6=>(gI .u8 g3).bind λd7=>ah ([j,t,a2,a3,a4,a5,a6,a7,a8,a9,I,J,R,U,a0,a1,b0,b3,b4,b5,b6,b7,b8,b9,d0,d1,d2,d3,d4,d5,d6,d7])
  |_=>aD
def decT:(th:Th)->List (SV thy)->Option (domT th)| .ints=>Ziz| .u32s=>Zi0| .w64=>Zn4| .ins=>Zn5| .sts=>Zn6| .bys=>Zn7| .vals=>Zi1| .byss=>Zi2| .opns=>Zi3| .envs=>Zi4| .digs=>Zi5
def wT:Th->Nat| .ints=>1| .u32s=>1| .w64=>1| .ins=>3| .sts=>5| .bys=>1| .vals=>4| .byss=>1| .opns=>38| .envs=>17| .digs=>32
def elT:Th->TypeId| .ints=>3| .u32s=>156| .w64=>257| .ins=>81| .sts=>43| .bys=>5| .vals=>100| .byss=>97| .opns=>73| .envs=>26| .digs=>36
noncomputable def thT:Tr Th:=(.node 73 (.node 26 (.node 5 (.leaf 3 Th.ints) (.leaf 5 Th.bys)) (.node 36 (.leaf 26 Th.envs) (.node 43 (.leaf 36 Th.digs) (.leaf 43 Th.sts)))) (.node 97 (.node 81 (.leaf 73 Th.opns) (.leaf 81 Th.ins)) (.node 100 (.leaf 97 Th.byss) (.node 156 (.leaf 100 Th.vals) (.leaf 156 Th.u32s)))))
noncomputable def arrT:Tr Th:=(.leaf 257 Th.w64)
noncomputable def smapT:Tr Th:= .nil
def binE(k f:Nat):Value×SV thy:=(.int .i64 k,.agg [.fn (.func f) [] []])
def Z8g(n:Nat):Option (SV thy):=match n with|1=>ah (.pmap [binE 3 303,binE 4 304,binE 5 305,binE 6 306,binE 7 307,binE 8 308,binE 9 310,binE 10 311,binE 11 312])|_=>aD
def extT(n:Nat):Option ExtK:=match n with|256=>ah .indexByteS|264=>ah .same|_=>aD
theorem Z8h:∀f x,extT f=ah x->ExtGood Tryz.prog f x:=by
  intro f x h;unfold extT at h;split at h
  ·cases h;exact⟨Tryz.f256,by kernel_rfl,by kernel_rfl,by kernel_rfl,by kernel_rfl,by kernel_rfl⟩
  ·cases h;exact⟨Tryz.f264,by kernel_rfl,by kernel_rfl,by kernel_rfl,by kernel_rfl,by kernel_rfl⟩
  ·cases h
def eqsT:List TypeId:= [24,25,26,35,36,37,38,54,55,56,57,80,81,147,148,191,192,206,214,215,238,239,240,257,264,265,275,291,300,301,318,319,337,338,340,341,350,351,352,354,358,359,360,373,374]
noncomputable def E:Eng thy:={P:=Tryz.prog,ty:=tyT.get,enc:=encF ae,w:=wT,el:=elT,thOf:=thT.get,dec:=decT,glob:=Z8g,lit:=false,eqs:=eqsT,arrOf:=arrT.get,ext:=extT,smap:=smapT.get}
noncomputable def F0:Fns thy:={sums:=λ_=>aD,fns:=fnT.get,loops:=λ_ _=>aD}
theorem Zn8{fl:Bool} {E':Eng thy} {cs:List (SV thy)} {x:Int} (h:Ziz cs=ah x):cs.length=1/\nidL 0 cs=af/\∀σ g (j:Nat) sv J v,cs[j]? =ah sv->(encF fl .ints x)[j]? =ah J->Den E' σ g sv v->Den E' σ g J v:=by
  unfold Ziz at h;split at h
  ·rename_i c0
   obtain⟨a0,R,h⟩:=an.1 h;cases h;refine⟨rfl,by simp only[nidL,Zh R,dv],λσ g j sv J v t I U=> ?_⟩
   match j,t,I with
   |0,t,I=>cases t;cases I;exact Zg R U
   |j+1,t,I=>cases t
  ·cases h
theorem Zn9{fl:Bool} {E':Eng thy} {cs:List (SV thy)} {x:Int} (h:Zi0 cs=ah x):cs.length=1/\nidL 0 cs=af/\∀σ g (j:Nat) sv J v,cs[j]? =ah sv->(encF fl .u32s x)[j]? =ah J->Den E' σ g sv v->Den E' σ g J v:=by
  unfold Zi0 at h;split at h
  ·rename_i c0
   obtain⟨a0,R,h⟩:=an.1 h;cases h;refine⟨rfl,by simp only[nidL,Zh R,dv],λσ g j sv J v t I U=> ?_⟩
   match j,t,I with
   |0,t,I=>cases t;cases I;exact Zg R U
   |j+1,t,I=>cases t
  ·cases h
theorem Zta{fl:Bool} {E':Eng thy} {cs:List (SV thy)} {x:Int} (h:Zn4 cs=ah x):cs.length=1/\nidL 0 cs=af/\∀σ g (j:Nat) sv J v,cs[j]? =ah sv->(encF fl .w64 x)[j]? =ah J->Den E' σ g sv v->Den E' σ g J v:=by
  unfold Zn4 at h;split at h
  ·rename_i c0
   obtain⟨a0,R,h⟩:=an.1 h;cases h;refine⟨rfl,by simp only[nidL,Zh R,dv],λσ g j sv J v t I U=> ?_⟩
   match j,t,I with
   |0,t,I=>cases t;cases I;exact Zg R U
   |j+1,t,I=>cases t
  ·cases h
theorem Ztb{fl:Bool} {E':Eng thy} {cs:List (SV thy)} {x:Ins} (h:Zn5 cs=ah x):cs.length=3/\nidL 0 cs=af/\∀σ g (j:Nat) sv R v,cs[j]? =ah sv->(encF fl .ins x)[j]? =ah R->Den E' σ g sv v->Den E' σ g R v:=by
  unfold Zn5 at h;split at h
  ·rename_i c0 c1 c2
   obtain⟨a0,U,h⟩:=an.1 h;obtain⟨a1,a3,h⟩:=an.1 h;obtain⟨a2,h2,h⟩:=an.1 h;cases h;refine⟨rfl,by simp only[nidL,Zh U,Zh a3,Zh h2,dv],λσ g j sv R v t I J=> ?_⟩
   match j,t,I with
   |0,t,I=>cases t;cases I;exact Zg U J
   |1,t,I=>cases t;cases I;exact Zg a3 J
   |2,t,I=>cases t;cases I;exact Zg h2 J
   |j+3,t,I=>cases t
  ·cases h
theorem Ztc{fl:Bool} {E':Eng thy} {cs:List (SV thy)} {x:St} (h:Zn6 cs=ah x):cs.length=5/\nidL 0 cs=af/\∀σ g (j:Nat) sv R v,cs[j]? =ah sv->(encF fl .sts x)[j]? =ah R->Den E' σ g sv v->Den E' σ g R v:=by
  unfold Zn6 at h;split at h
  ·rename_i c0 c1 c2 c3 c4
   obtain⟨a0,U,h⟩:=an.1 h;obtain⟨a1,a5,h⟩:=an.1 h;obtain⟨a2,h2,h⟩:=an.1 h;obtain⟨a3,h3,h⟩:=an.1 h;obtain⟨a4,h4,h⟩:=an.1 h;cases h;refine⟨rfl,by simp only[nidL,Zh U,Zh a5,Zh h2,Zh h3,Zfm h4,dv],λσ g j sv R v t I J=> ?_⟩
   match j,t,I with
   |0,t,I=>cases t;cases I;exact Zg U J
   |1,t,I=>cases t;cases I;exact Zg a5 J
   |2,t,I=>cases t;cases I;exact Zg h2 J
   |3,t,I=>cases t;cases I;exact Zg h3 J
   |4,t,I=>cases t;cases I;exact Zfl h4 J
   |j+5,t,I=>cases t
  ·cases h
theorem Ztd{fl:Bool} {E':Eng thy} {cs:List (SV thy)} {x:Int} (h:Zn7 cs=ah x):cs.length=1/\nidL 0 cs=af/\∀σ g (j:Nat) sv J v,cs[j]? =ah sv->(encF fl .bys x)[j]? =ah J->Den E' σ g sv v->Den E' σ g J v:=by
  unfold Zn7 at h;split at h
  ·rename_i c0
   obtain⟨a0,R,h⟩:=an.1 h;cases h;refine⟨rfl,by simp only[nidL,Zh R,dv],λσ g j sv J v t I U=> ?_⟩
   match j,t,I with
   |0,t,I=>cases t;cases I;exact Zg R U
   |j+1,t,I=>cases t
  ·cases h
theorem Zoa{fl:Bool} {E':Eng thy} {cs:List (SV thy)} {x:Val} (h:Zi1 cs=ah x):cs.length=4/\nidL 0 cs=af/\∀σ g (j:Nat) sv R v,cs[j]? =ah sv->(encF fl .vals x)[j]? =ah R->Den E' σ g sv v->Den E' σ g R v:=by
  unfold Zi1 at h;split at h
  ·rename_i c0 c1 c2 c3
   obtain⟨a0,U,h⟩:=an.1 h;obtain⟨a1,a4,h⟩:=an.1 h;obtain⟨a2,h2,h⟩:=an.1 h;obtain⟨a3,h3,h⟩:=an.1 h;cases h;refine⟨rfl,by simp only[nidL,Zh U,Zh a4,Zfm h2,Zfm h3,dv],λσ g j sv R v t I J=> ?_⟩
   match j,t,I with
   |0,t,I=>cases t;cases I;exact Zg U J
   |1,t,I=>cases t;cases I;exact Zg a4 J
   |2,t,I=>cases t;cases I;exact Zfl h2 J
   |3,t,I=>cases t;cases I;exact Zfl h3 J
   |j+4,t,I=>cases t
  ·cases h
theorem Zob{fl:Bool} {E':Eng thy} {cs:List (SV thy)} {x:List (Int)} (h:Zi2 cs=ah x):cs.length=1/\nidL 0 cs=af/\∀σ g (j:Nat) sv J v,cs[j]? =ah sv->(encF fl .byss x)[j]? =ah J->Den E' σ g sv v->Den E' σ g J v:=by
  unfold Zi2 at h;split at h
  ·rename_i c0
   obtain⟨a0,R,h⟩:=an.1 h;cases h;refine⟨rfl,by simp only[nidL,Zfm R,dv],λσ g j sv J v t I U=> ?_⟩
   match j,t,I with
   |0,t,I=>cases t;cases I;exact Zfl R U
   |j+1,t,I=>cases t
  ·cases h
theorem Zoc{fl:Bool} {E':Eng thy} {cs:List (SV thy)} {x:Opn} (h:Zi3 cs=ah x):cs.length=38/\nidL 0 cs=af/\∀σ g (j:Nat) sv R v,cs[j]? =ah sv->(encF fl .opns x)[j]? =ah R->Den E' σ g sv v->Den E' σ g R v:=by
  unfold Zi3 at h;split at h
  ·rename_i c0 c1 c2 c3 c4 c5 c6 c7 c8 c9 j5 j6 j7 j8 j9 k0 k1 k2 k3 k4 k5 k6 k7 k8 k9 l0 l1 l2 l3 l4 l5 l6 l7 l8 l9 m0 m1 m2
   obtain⟨a0,U,h⟩:=an.1 h;obtain⟨a1,b0,h⟩:=an.1 h;obtain⟨a2,h2,h⟩:=an.1 h;obtain⟨a3,h3,h⟩:=an.1 h;obtain⟨a4,h4,h⟩:=an.1 h;obtain⟨a5,h5,h⟩:=an.1 h;obtain⟨a6,h6,h⟩:=an.1 h;obtain⟨a7,h7,h⟩:=an.1 h;obtain⟨a8,h8,h⟩:=an.1 h;obtain⟨a9,h9,h⟩:=an.1 h;obtain⟨f5,b3,h⟩:=an.1 h;obtain⟨f6,b4,h⟩:=an.1 h;obtain⟨f7,b5,h⟩:=an.1 h
   obtain⟨f8,b6,h⟩:=an.1 h;obtain⟨f9,b7,h⟩:=an.1 h;obtain⟨g0,b8,h⟩:=an.1 h;obtain⟨g1,b9,h⟩:=an.1 h;obtain⟨g2,d0,h⟩:=an.1 h;obtain⟨g3,d1,h⟩:=an.1 h;obtain⟨g4,d2,h⟩:=an.1 h;obtain⟨g5,d3,h⟩:=an.1 h;obtain⟨g6,d4,h⟩:=an.1 h;obtain⟨g7,d5,h⟩:=an.1 h;obtain⟨g8,d6,h⟩:=an.1 h;obtain⟨g9,d7,h⟩:=an.1 h
   obtain⟨h0,d8,h⟩:=an.1 h;obtain⟨h1,d9,h⟩:=an.1 h;obtain⟨i1,e0,h⟩:=an.1 h;obtain⟨i4,e1,h⟩:=an.1 h;obtain⟨i5,e2,h⟩:=an.1 h;obtain⟨i6,e3,h⟩:=an.1 h;obtain⟨i7,e4,h⟩:=an.1 h;obtain⟨i9,e5,h⟩:=an.1 h;obtain⟨j0,e6,h⟩:=an.1 h;obtain⟨j1,e7,h⟩:=an.1 h;obtain⟨j2,e8,h⟩:=an.1 h;obtain⟨j3,e9,h⟩:=an.1 h
   obtain⟨j4,f4,h⟩:=an.1 h;cases h;refine⟨rfl,by simp only[nidL,Zh U,Zh b0,Zh h2,Zh h3,Zfm h4,Zh h5,Zh h6,Zh h7,Zh h8,Zh h9,Zh b3,Zh b4,Zh b5,Zh b6,Zh b7,Zh b8,Zh b9,Zh d0,Zh d1,Zh d2,Zh d3,Zh d4,Zh d5,Zh d6,Zh d7,Zh d8,Zh d9,Zh e0,Zh e1,Zh e2,Zh e3,Zh e4,Zh e5,Zh e6,Zh e7,Zh e8,Zh e9,Zh f4,dv],λσ g j sv R v t I J=> ?_⟩
   match j,t,I with
   |0,t,I=>cases t;cases I;exact Zg U J
   |1,t,I=>cases t;cases I;exact Zg b0 J
   |2,t,I=>cases t;cases I;exact Zg h2 J
   |3,t,I=>cases t;cases I;exact Zg h3 J
   |4,t,I=>cases t;cases I;exact Zfl h4 J
   |5,t,I=>cases t;cases I;exact Zg h5 J
   |6,t,I=>cases t;cases I;exact Zg h6 J
   |7,t,I=>cases t;cases I;exact Zg h7 J
   |8,t,I=>cases t;cases I;exact Zg h8 J
   |9,t,I=>cases t;cases I;exact Zg h9 J
   |10,t,I=>cases t;cases I;exact Zg b3 J
   |11,t,I=>cases t;cases I;exact Zg b4 J
   |12,t,I=>cases t;cases I;exact Zg b5 J
   |13,t,I=>cases t;cases I;exact Zg b6 J
   |14,t,I=>cases t;cases I;exact Zg b7 J
   |15,t,I=>cases t;cases I;exact Zg b8 J
   |16,t,I=>cases t;cases I;exact Zg b9 J
   |17,t,I=>cases t;cases I;exact Zg d0 J
   |18,t,I=>cases t;cases I;exact Zg d1 J
   |19,t,I=>cases t;cases I;exact Zg d2 J
   |20,t,I=>cases t;cases I;exact Zg d3 J
   |21,t,I=>cases t;cases I;exact Zg d4 J
   |22,t,I=>cases t;cases I;exact Zg d5 J
   |23,t,I=>cases t;cases I;exact Zg d6 J
   |24,t,I=>cases t;cases I;exact Zg d7 J
   |25,t,I=>cases t;cases I;exact Zg d8 J
   |26,t,I=>cases t;cases I;exact Zg d9 J
   |27,t,I=>cases t;cases I;exact Zg e0 J
   |28,t,I=>cases t;cases I;exact Zg e1 J
   |29,t,I=>cases t;cases I;exact Zg e2 J
   |30,t,I=>cases t;cases I;exact Zg e3 J
   |31,t,I=>cases t;cases I;exact Zg e4 J
   |32,t,I=>cases t;cases I;exact Zg e5 J
   |33,t,I=>cases t;cases I;exact Zg e6 J
   |34,t,I=>cases t;cases I;exact Zg e7 J
   |35,t,I=>cases t;cases I;exact Zg e8 J
   |36,t,I=>cases t;cases I;exact Zg e9 J
   |37,t,I=>cases t;cases I;exact Zg f4 J
   |j+38,t,I=>cases t
  ·cases h
theorem Zod{fl:Bool} {E':Eng thy} {cs:List (SV thy)} {x:Env} (h:Zi4 cs=ah x):cs.length=17/\nidL 0 cs=af/\∀σ g (j:Nat) sv R v,cs[j]? =ah sv->(encF fl .envs x)[j]? =ah R->Den E' σ g sv v->Den E' σ g R v:=by
  unfold Zi4 at h;split at h
  ·rename_i c0 c1 c2 c3 c4 c5 c6 c7 c8 c9 d7 d8 d9 e0 e1 e2 e3
   obtain⟨a0,U,h⟩:=an.1 h;obtain⟨a1,b0,h⟩:=an.1 h;obtain⟨a2,h2,h⟩:=an.1 h;obtain⟨a3,h3,h⟩:=an.1 h;obtain⟨a4,h4,h⟩:=an.1 h;obtain⟨a5,h5,h⟩:=an.1 h;obtain⟨a6,h6,h⟩:=an.1 h;obtain⟨a7,h7,h⟩:=an.1 h;obtain⟨a8,h8,h⟩:=an.1 h;obtain⟨a9,h9,h⟩:=an.1 h;obtain⟨d0,b3,h⟩:=an.1 h;obtain⟨d1,b4,h⟩:=an.1 h;obtain⟨d2,b5,h⟩:=an.1 h
   obtain⟨d3,b6,h⟩:=an.1 h;obtain⟨d4,b7,h⟩:=an.1 h;obtain⟨d5,b8,h⟩:=an.1 h;obtain⟨d6,b9,h⟩:=an.1 h;cases h;refine⟨rfl,by simp only[nidL,Zh U,Zh b0,Zh h2,Zh h3,Zh h4,Zh h5,Zh h6,Zh h7,Zh h8,Zh h9,Zh b3,Zh b4,Zh b5,Zh b6,Zh b7,Zh b8,Zh b9,dv],λσ g j sv R v t I J=> ?_⟩
   match j,t,I with
   |0,t,I=>cases t;cases I;exact Zg U J
   |1,t,I=>cases t;cases I;exact Zg b0 J
   |2,t,I=>cases t;cases I;exact Zg h2 J
   |3,t,I=>cases t;cases I;exact Zg h3 J
   |4,t,I=>cases t;cases I;exact Zg h4 J
   |5,t,I=>cases t;cases I;exact Zg h5 J
   |6,t,I=>cases t;cases I;exact Zg h6 J
   |7,t,I=>cases t;cases I;exact Zg h7 J
   |8,t,I=>cases t;cases I;exact Zg h8 J
   |9,t,I=>cases t;cases I;exact Zg h9 J
   |10,t,I=>cases t;cases I;exact Zg b3 J
   |11,t,I=>cases t;cases I;exact Zg b4 J
   |12,t,I=>cases t;cases I;exact Zg b5 J
   |13,t,I=>cases t;cases I;exact Zg b6 J
   |14,t,I=>cases t;cases I;exact Zg b7 J
   |15,t,I=>cases t;cases I;exact Zg b8 J
   |16,t,I=>cases t;cases I;exact Zg b9 J
   |j+17,t,I=>cases t
  ·cases h
theorem Zoe{fl:Bool} {E':Eng thy} {cs:List (SV thy)} {x:List Int} (h:Zi5 cs=ah x):cs.length=32/\nidL 0 cs=af/\∀σ g (j:Nat) sv R v,cs[j]? =ah sv->(encF fl .digs x)[j]? =ah R->Den E' σ g sv v->Den E' σ g R v:=by
  unfold Zi5 at h;split at h
  ·rename_i c0 c1 c2 c3 c4 c5 c6 c7 c8 c9 h1 i1 i4 i5 i6 i7 i9 j0 j1 j2 j3 j4 j5 j6 j7 j8 j9 k0 k1 k2 k3 k4
   obtain⟨a0,U,h⟩:=an.1 h;obtain⟨a1,b0,h⟩:=an.1 h;obtain⟨a2,h2,h⟩:=an.1 h;obtain⟨a3,h3,h⟩:=an.1 h;obtain⟨a4,h4,h⟩:=an.1 h;obtain⟨a5,h5,h⟩:=an.1 h;obtain⟨a6,h6,h⟩:=an.1 h;obtain⟨a7,h7,h⟩:=an.1 h;obtain⟨a8,h8,h⟩:=an.1 h;obtain⟨a9,h9,h⟩:=an.1 h;obtain⟨e5,b3,h⟩:=an.1 h;obtain⟨e6,b4,h⟩:=an.1 h;obtain⟨e7,b5,h⟩:=an.1 h
   obtain⟨e8,b6,h⟩:=an.1 h;obtain⟨e9,b7,h⟩:=an.1 h;obtain⟨f4,b8,h⟩:=an.1 h;obtain⟨f5,b9,h⟩:=an.1 h;obtain⟨f6,d0,h⟩:=an.1 h;obtain⟨f7,d1,h⟩:=an.1 h;obtain⟨f8,d2,h⟩:=an.1 h;obtain⟨f9,d3,h⟩:=an.1 h;obtain⟨g0,d4,h⟩:=an.1 h;obtain⟨g1,d5,h⟩:=an.1 h;obtain⟨g2,d6,h⟩:=an.1 h;obtain⟨g3,d7,h⟩:=an.1 h
   obtain⟨g4,d8,h⟩:=an.1 h;obtain⟨g5,d9,h⟩:=an.1 h;obtain⟨g6,e0,h⟩:=an.1 h;obtain⟨g7,e1,h⟩:=an.1 h;obtain⟨g8,e2,h⟩:=an.1 h;obtain⟨g9,e3,h⟩:=an.1 h;obtain⟨h0,e4,h⟩:=an.1 h;cases h;refine⟨rfl,by simp only[nidL,Zh U,Zh b0,Zh h2,Zh h3,Zh h4,Zh h5,Zh h6,Zh h7,Zh h8,Zh h9,Zh b3,Zh b4,Zh b5,Zh b6,Zh b7,Zh b8,Zh b9,Zh d0,Zh d1,Zh d2,Zh d3,Zh d4,Zh d5,Zh d6,Zh d7,Zh d8,Zh d9,Zh e0,Zh e1,Zh e2,Zh e3,Zh e4,dv],λσ g j sv R v t I J=> ?_⟩
   match j,t,I with
   |0,t,I=>cases t;cases I;exact Zg U J
   |1,t,I=>cases t;cases I;exact Zg b0 J
   |2,t,I=>cases t;cases I;exact Zg h2 J
   |3,t,I=>cases t;cases I;exact Zg h3 J
   |4,t,I=>cases t;cases I;exact Zg h4 J
   |5,t,I=>cases t;cases I;exact Zg h5 J
   |6,t,I=>cases t;cases I;exact Zg h6 J
   |7,t,I=>cases t;cases I;exact Zg h7 J
   |8,t,I=>cases t;cases I;exact Zg h8 J
   |9,t,I=>cases t;cases I;exact Zg h9 J
   |10,t,I=>cases t;cases I;exact Zg b3 J
   |11,t,I=>cases t;cases I;exact Zg b4 J
   |12,t,I=>cases t;cases I;exact Zg b5 J
   |13,t,I=>cases t;cases I;exact Zg b6 J
   |14,t,I=>cases t;cases I;exact Zg b7 J
   |15,t,I=>cases t;cases I;exact Zg b8 J
   |16,t,I=>cases t;cases I;exact Zg b9 J
   |17,t,I=>cases t;cases I;exact Zg d0 J
   |18,t,I=>cases t;cases I;exact Zg d1 J
   |19,t,I=>cases t;cases I;exact Zg d2 J
   |20,t,I=>cases t;cases I;exact Zg d3 J
   |21,t,I=>cases t;cases I;exact Zg d4 J
   |22,t,I=>cases t;cases I;exact Zg d5 J
   |23,t,I=>cases t;cases I;exact Zg d6 J
   |24,t,I=>cases t;cases I;exact Zg d7 J
   |25,t,I=>cases t;cases I;exact Zg d8 J
   |26,t,I=>cases t;cases I;exact Zg d9 J
   |27,t,I=>cases t;cases I;exact Zg e0 J
   |28,t,I=>cases t;cases I;exact Zg e1 J
   |29,t,I=>cases t;cases I;exact Zg e2 J
   |30,t,I=>cases t;cases I;exact Zg e3 J
   |31,t,I=>cases t;cases I;exact Zg e4 J
   |j+32,t,I=>cases t
  ·cases h
theorem Zyg{fl:Bool} {E':Eng thy}:∀(th:Th) {cs:List (SV thy)} {x:domT th},decT th cs=ah x->cs.length=wT th/\nidL 0 cs=af/\∀σ g (j:Nat) sv t v,cs[j]? =ah sv->(encF fl th x)[j]? =ah t->Den E' σ g sv v->Den E' σ g t v
  | .ints,_,_,h=>Zn8 h
  | .u32s,_,_,h=>Zn9 h
  | .w64,_,_,h=>Zta h
  | .ins,_,_,h=>Ztb h
  | .sts,_,_,h=>Ztc h
  | .bys,_,_,h=>Ztd h
  | .vals,_,_,h=>Zoa h
  | .byss,_,_,h=>Zob h
  | .opns,_,_,h=>Zoc h
  | .envs,_,_,h=>Zod h
  | .digs,_,_,h=>Zoe h
theorem Ya1:tyT.All (TyOk Tryz.prog):=by repeat' (first|refine⟨?_,?_⟩|kernel_rfl)
theorem Zyh:fnT.All (FnOk Tryz.prog):=by repeat' (first|refine⟨?_,?_⟩|kernel_rfl)
theorem Ya2:thT.All (λt th=>(tyT.get t).map (λi=>i.size)=ah (wT th)):=⟨⟨⟨(by kernel_rfl:(tyT.get 3).map (λi=>i.size)=ah (wT Th.ints)),(by kernel_rfl:(tyT.get 5).map (λi=>i.size)=ah (wT Th.bys))⟩,⟨(by kernel_rfl:(tyT.get 26).map (λi=>i.size)=ah (wT Th.envs)),⟨(by kernel_rfl:(tyT.get 36).map (λi=>i.size)=ah (wT Th.digs)),(by kernel_rfl:(tyT.get 43).map (λi=>i.size)=ah (wT Th.sts))⟩⟩⟩,⟨⟨(by kernel_rfl:(tyT.get 73).map (λi=>i.size)=ah (wT Th.opns)),(by kernel_rfl:(tyT.get 81).map (λi=>i.size)=ah (wT Th.ins))⟩,⟨(by kernel_rfl:(tyT.get 97).map (λi=>i.size)=ah (wT Th.byss)),⟨(by kernel_rfl:(tyT.get 100).map (λi=>i.size)=ah (wT Th.vals)),(by kernel_rfl:(tyT.get 156).map (λi=>i.size)=ah (wT Th.u32s))⟩⟩⟩⟩
theorem Z8i:arrT.All (λt th=>elT th=t):=rfl
theorem Z8j:∀t∈eqsT,Tryz.prog.stoodInHeld t=ae/\Tryz.prog.eqGuardType Tryz.prog.depth t=false:=by
  unfold eqsT;simp only[List.forall_mem_cons]
  repeat' (first|refine⟨?_,?_⟩|kernel_rfl|exactλ_ h=>nomatch h)
end
section
open Go
theorem Zex{th:Th} {cs:List (SV thy)} {x:domT th} (h:decT th cs=ah x):nidL 0 cs=true:=(Zyg (fl:=false) (E':=E) th h).2.1
theorem Z91(el:TypeId) (th:Th) (i:TyI) (h:thT.get el=ah th) (j:tyT.get el=ah i):i.size=wT th:=by
 have:=Tr.get_all Ya2 h;simp only[j,Option.map_some,cF] at this;exact this
theorem E_ok:EngOk E where
 ty t i h:=((Tr.get_all Ya1 h:TyOk Tryz.prog t i)).ty
 enc th x:=by cases th<;>rfl
 pos th:=by cases th<;>decide
 dec th cs x h:=let⟨a,_,b⟩:=Zyg th h;⟨a,b⟩
 leaf th x:=by cases th<;>rfl
 thOf el th i h h2:=Z91 el th i h h2
 encI i th x:=by cases th<;>rfl
 mix:=by kernel_rfl
 arr t th h:=Tr.get_all (p:=λt th=>elT th=t) Z8i h
 eqs t h:=Z8j t (memB_iff.1 h)
 ext:=Z8h
theorem F0_ok:FnsOk E F0 where
 sumG f S h:=by cases h
 fnG f fn h:=(Tr.get_all Zyh h:FnOk Tryz.prog f fn).good
 sum f S h:=by cases h
 fn f fn h:=(Tr.get_all Zyh h:FnOk Tryz.prog f fn).1
 loop f j L h:=by cases h
theorem Ze{f:Nat} {fn:Func} (h:fnT.get f=ah fn):FnGood Tryz.prog f:=(Tr.get_all Zyh h:FnOk Tryz.prog f fn).good
noncomputable def dR(th:Th):Dc E (domT th):=dRow E_ok th λ_ _ h=>Zex (th:=th) h
end
section
open Go.ChangeShapes Go.WideShapes Go.ChangeAt Go.RowKit
theorem Tryz.own:ownKnob Tryz.prog.godebug=none:=by kernel_rfl
theorem Tryz.laidOut:laidOutB Tryz.prog=true:=by kernel_rfl
section
variable {H:Type} {enc:TypeId × Value->H} {P:Program}
theorem Zim(hl:laidOutB P=af) {W R:World} {a1:Nat->Bool}:∀{I:List TypeId} {vs:List Value} {J:List (DataW H)} {ps:List MemPlace},(I.all λt=>P.readableRec t&&decide (t<P.types.size))=af->
 gE enc P W 0 (λ_=>af) af I vs J ps->(∀x∈ps,W.sameAt R x)->(∀x∈ps,a1 x.block=af)->gE enc P R 0 a1 af I vs J ps:=by
 intro I
 induction I with
 |nil=>
  intro vs J ps _ h _ _
  obtain⟨rfl,rfl,rfl⟩:=trodAll_nil h
  rfl
 |cons t I ih=>
  intro vs J ps ht h a0 U
  obtain⟨v,a3,d,a2,p,q,rfl,rfl,rfl,hd,hr⟩:=trodAll_cons h
  simp only[kx,az,fw] at ht
  exact⟨p,q,WideElems.Trod_stays hl ht.1.1 ht.1.2 hd (λx j=>a0 x (by simp[j])) (λx j=>U x (by simp[j])),
   ih (by simpa using ht.2) hr (λx j=>a0 x (by simp[j])) (λx j=>U x (by simp[j])),rfl⟩
theorem Zxw{f:Func} {s:ChangeSpec} {b0 again:Bool} {W W':World} {args:Array Value} {J U:List (DataW H)} {before:List MemPlace} {tb:TypeId} (hl:laidOutB P=af) (hr:f.resultTypes= #[tb]) (hb:P.underlying tb=ah .bool)
 (I:(f.params.toList.all λt=>P.readableRec t&&decide (t<P.types.size))=af) (hv:s.vars= []) (hW:DataW.Whole enc P f.params.toList s.vars ae W args.toList J U before)
 (b5:(s.fn H (J++U)).results= [.lit (.bool af)]) (b3:(s.fn H (J++U)).args=J) (b6:(s.fn H (J++U)).vars= []) (hx:Ext W W'):
 s.post enc P f ae af b0 again W args (.bool af) W':=by
 have a2:Below W.heap.size W W':=hx
 have a3:∀p∈before,p.block<W.heap.size:=λp I=>hW.lt p I
 have a9:=hW
 obtain⟨pa,pv,hA,hV,a5,hz,hn⟩:=hW
 rw[hv] at hV
 obtain⟨hg,b4⟩:=trodVars_none hV
 subst b4
 rw[List.append_nil] at a5
 subst a5
 have a4:∀R:Nat->Bool,(∀p∈before,R p.block=af)->gE enc P W' 0 R af f.params.toList args.toList (s.fn H (J++U)).args before:=λR h=>by
  rw[b3]
  exact Zim hl I hA (λx hx=>a2.same (a3 x hx)) h
 have a8:∀R:Nat->Bool,DataW.TrodVars enc P W' R s.vars (s.fn H (J++U)).vars []:=λR=>by rw[hv,b6];rfl
 have a7:∀(b:Nat) (R:Nat->Bool) (hd:Bool),gE enc P W' b R hd f.resultTypes.toList ((kM af).resultList f.resultTypes.size) (s.fn H (J++U)).results []:=λb R hd=>by
  rw[hr,b5]
  exact⟨[],[],shut_bool hb af,rfl,rfl⟩
 refine⟨J,U,before,[],before,[],a9,a7 _ _ _,a4 _ (λp I=>by simpa using a3 p I),a8 _,World.keptBut_mono (λp I=>⟨I,?_⟩) (a2.frame (· ∈before)),λ_=> ?_⟩
 ·simpa using I
 ·refine⟨?_,_,_,([]++before)++ [],⟨[]++before,[],trodAll_append (a4 _ (λ_ _=>rfl)) (a7 _ _ _),a8 _,rfl,?_,?_⟩,?_⟩
  ·intro j t r a0 a1
   rw[hr] at a0 a1
   match j,a0,a1 with
   |0,a0,a1=>
    obtain rfl:tb=t:=by simpa using a0
    obtain rfl:kM af=r:=by simpa[Value.resultList] using a1
    exact okWide_bool_mk hb af
   |j+1,a0,a1=>simp at a0
  ·intro b off I
   have a6:MemPlace.cell b off∈before:=by simpa using I
   rw[a2.frozen (a3 _ a6)]
   exact hz b off a6
  ·intro ha;cases ha
  ·intro p I _
   simpa using I
end
end
section
open Go.ChangeShapes Go.WideShapes Go.ChangeAt Go.RowKit
theorem Zhn{H:Type} {p:Lit×DataW H}:∀{l:List (Lit×DataW H)},p∈l.foldr DataW.insert []↔p∈l
 | []=>Iff.rfl
 |x::l=>by
  rw[List.foldr_cons,(insert_perm x _).mem_iff,bE,bE,Zhn]
theorem Z3t{P:Program} {t:TypeId} {q:IntKind} (ht:P.underlying t=ah (.int q)) {v:Value} {n:Int} (h:keyOf P t v=ah (.int q n)):v= .int q n:=by
 unfold keyOf at h;rw[ht] at h;simp only[] at h;unfold mapKey at h;rw[ht] at h;cases v with
 |int I m=>
  simp only[] at h;split at h
  ·rename_i j
   cases h;rw[j.1]
  ·cases h
 |_=>simp at h
end
section
open Go.ChangeShapes Go.WideShapes Go.ChangeAt Go.RowKit
section
variable {Y:Thy} {E:Eng Y}
def gTop(w:World):GH :=
  { cell:=λr o=>w.cell? ⟨r,o,aD⟩
    obj:=λr=>match w.heap[r]? with | some (.map j _)=>ah j | _=>aD }
theorem Z5n{w:World} (a0:∀ n sv,E.glob n=ah sv->∀ (j:Nat) s,sv.cells[j]?=ah s->∃ v,w.cell? ⟨n,j,aD⟩=ah v/\Den E (λ_=>aD) (gTop w) s v):Inv E w.heap.size σ0 hp0 (gTop w) w:=by
  refine⟨λr o v I=>I,λr es I=>?_,(λb x J=>by cases J),λb b' r z z' R=>jv rfl R,(λb r z hs=>by cases hs),(λb x r z o v J=>by cases J),(λb x r z J=>by cases J),a0⟩;have I:(match w.heap[r]? with | some (.map es _)=>ah es | _=>aD)=ah es:=I;split at I
  ·rename_i es' c U
   cases I;exact⟨c,U⟩
  ·cases I
end
section
variable {H:Type} {enc:TypeId × Value->H} {P:Program} {w:World} {spare:Nat->Bool} {held:Bool} {fuel:Nat} {t:TypeId} {cs:List Value} {x:DataW H × List MemPlace}
theorem Ve{k:IntKind} (ht:P.underlying t=ah (.int k)) (h:dA enc P w 0 spare held fuel t cs=ah x):∃n,cs= [.int k n]/\(Lit.int k n).wf=true:=by
 cases fuel with
 |zero=>simp[dA] at h
 |succ m=>
  unfold dA at h;rw[ht] at h;split at h<;>simp_all
theorem Zj3{Y:Thy} {E:Eng Y} {th:Y.Th} {e:TypeId} (hw:∀ a,(E.enc th a).length=E.w th) (hp:0<E.w th) (ht:P.underlying t=ah (.slice e)) (hk:P.cellsOf e=E.w th)
 (h:dA enc P w 0 spare held fuel t cs=ah x) (hR:∀ n,n<fuel->∀ a0 y,dA enc P w 0 spare held n e a0=ah y->∃ a,∀ (j:Nat) sv,(E.enc th a)[j]?=ah sv->∃ v,a0[j]?=ah v/\Den E σ0 (gTop w) sv v) :
 ∃ sv l,cs=[sv]/\Den E σ0 (gTop w) (.psl th l ae) sv:=by
 rcases DataW.trod_slice ht h with⟨J,_⟩ | ⟨a,len,cap,b3,rest,n,hf,a5,_,_,hl,hc,b4,b0,_⟩
 ·exact⟨_,[],J,.psl (l:=[]) (λ_ _=>undef) (aE _) (by unfold maxLen; omega) (by simp) (λ_=>rfl) (by simp) (by simp)⟩
 ·have a4:∀ i,i<len->∃ p:List Value×Y.dom th,w.cells? 0 (a.add (i * E.w th)) (E.w th)=ah p.1/\∀ (j:Nat) sv,(E.enc th p.2)[j]?=ah sv->∃ v,p.1[j]?=ah v/\Den E σ0 (gTop w) sv v:=by
   intro i hi
   have R:=b0 i hi
   rw[aq (by omega)] at R
   obtain⟨a0,a8,a9⟩:=an.1 R
   obtain⟨y,hy⟩:=hR n (by omega) a0 _ a9
   exact⟨(a0,y),by rw[← hk]; exact a8,hy⟩
  rcases Nat.eq_zero_or_pos len with J | J
  ·subst J
   exact⟨_,[],a5,.psl (l:=[]) (λ_ _=>undef) hl hc (by simp) (λh=>by cases h) (λhp=>by simp at hp) (by simp)⟩
  have:Inhabited (List Value×Y.dom th):=⟨(a4 0 J).choose⟩
  obtain⟨f,a1⟩:=Go.Deep.choose_lt (α:=List Value×Y.dom th) a4
  have a7:a.spot=none:=by
   have R:=(a1 0 J).1
   obtain⟨_,a3,a2⟩:=gQ R
   have I:=a2 0 hp
   rw[aq (by omega)] at I
   simp only[Nat.zero_mul,Addr.add,jP] at I
   unfold World.cell? at I
   split at I
   ·split at I
    ·cases I
    ·rename_i hs; simpa using hs
   ·cases I
  obtain⟨b,o,s⟩:=a
  obtain rfl:s=none:=a7
  have cell:∀ i,i<len->∀ j,j<E.w th->w.cell? ⟨b,o+i * E.w th+j,aD⟩=(f i).1[j]?:=by
   intro i hi j U
   obtain⟨_,a3,a2⟩:=gQ (a1 i hi).1
   have:=a2 j U
   rw[Go.Deep.add_add,Yy] at this
   rw[Nat.add_assoc]; exact this
  have a3:((cy len).map λi=>(f i).2).length=len:=by simp
  have get:∀ (i:Nat) y,((cy len).map λi=>(f i).2)[i]?=ah y->i<len/\(f i).2=y:=by
   intro i y hi
   have a6:i<len:=by have:=(ar.1 hi).1; simpa using this
   exact⟨a6,by simpa[a6] using hi⟩
  refine⟨.slice (ah ⟨b,o,aD⟩) len cap,(cy len).map λi=>(f i).2,a5,?_⟩
  have:=Den.psl (E:=E) (σ:=σ0) (g:=gTop w) (th:=th) (l:=(cy len).map λi=>(f i).2) (full:=false) (base:=some ⟨b,o,aD⟩) (c:=cap) (λi j=>(f i).1.getD j undef) (by omega) hc (by simp) (λh=>by cases h)
   (λ_=>⟨b,o,rfl,λi y hy j U=>?_⟩) (λi y hy j sv U=>?_)
  ·rw[a3] at this; exact this
  ·obtain⟨hi,_⟩:=get i y hy
   rw[hw] at U
   obtain⟨_,b5,_⟩:=gQ (a1 i hi).1
   show w.cell? _=_
   rw[cell i hi j U,aI,aq (by omega)]; rfl
  ·obtain⟨hi,rfl⟩:=get i y hy
   obtain⟨v,R,I⟩:=(a1 i hi).2 j sv U
   rw[aI,R]; exact I
theorem Za8{Y:Thy} {E:Eng Y} {th:Y.Th} {e:TypeId} (a0:∀a,(E.enc th a).length=E.w th) (U:0<E.w th) (ht:P.underlying t=ah (.slice e)) (R:P.cellsOf e=E.w th)
 (h:dA enc P w 0 spare held fuel t cs=ah x) (J:∀n I y,dA enc P w 0 spare held n e I=ah y->∃a,∀(j:Nat) sv,(E.enc th a)[j]? =ah sv->∃v,I[j]? =ah v/\Den E σ0 (gTop w) sv v):
 ∃sv l,cs= [sv]/\Den E σ0 (gTop w) (.psl th l ae) sv:=by
 exact Zj3 a0 U ht R h λn _ I y hy=>J n I y hy
theorem Zdf{v:Value} {n:Nat} (h:v.cells.toList.length=n) (j:n≠1):v= .agg v.cells.toList.toArray:=by
 cases v<;>simp_all[jq]
end
end
section
open Go.ChangeShapes Go.WideShapes Go.ChangeAt Go.RowKit
theorem gBin:Tryz.prog.globalNamed "wagonpool/tvm.binaries" =ah 1:=by kernel_rfl
theorem tBin:(Tryz.prog.globals[1]?).map (·.type)=ah 252:=by kernel_rfl
abbrev Z9w:List (String×DataW Unit):= [("wagonpool/tvm.binaries",Rows.laid_wagonpool_tvm_binaries)]
def binD:List (Lit×DataW (List UInt8)):= [(.int .i64 3,.agg [.held [119,97,103,111,110,112,111,111,108,47,109,111,110,101,121,46,65,100,100]]),(.int .i64 4,.agg [.held [119,97,103,111,110,112,111,111,108,47,109,111,110,101,121,46,83,117,98]]),(.int .i64 5,.agg [.held [119,97,103,111,110,112,111,111,108,47,109,111,110,101,121,46,77,117,108]]),(.int .i64 6,.agg [.held [119,97,103,111,110,112,111,111,108,47,116,118,109,46,98,105,110,97,114,105,101,115,36,49]]),(.int .i64 7,.agg [.held [119,97,103,111,110,112,111,111,108,47,116,118,109,46,98,105,110,97,114,105,101,115,36,50]]),(.int .i64 8,.agg [.held [119,97,103,111,110,112,111,111,108,47,116,118,109,46,98,105,110,97,114,105,101,115,36,51]]),(.int .i64 9,.agg [.held [119,97,103,111,110,112,111,111,108,47,116,118,109,46,98,105,110,97,114,105,101,115,36,52]]),(.int .i64 10,.agg [.held [119,97,103,111,110,112,111,111,108,47,116,118,109,46,98,105,110,97,114,105,101,115,36,53]]),(.int .i64 11,.agg [.held [119,97,103,111,110,112,111,111,108,47,116,118,109,46,98,105,110,97,114,105,101,115,36,54]])]
theorem Z5z{w:World} {n:Nat} {v:Value} {y:DataW (List UInt8)×List MemPlace} {b:UInt8} {r:List UInt8} {f0:FuncId} (a2:((cy Tryz.prog.funcs.size).filter λf=>(Tryz.prog.funcs[f]?).any (·.name.toUTF8.data.toList==b::r))= [f0])
 (h:dy (funcToken Tryz.prog) Tryz.prog w 0 (λ_=>af) af n 250 v=ah y) (J:y.1= .agg [.held (b::r)]):v= .agg #[.func (.func f0) #[] #[]]:=by
 unfold dy at h
 split at h
 ·rename_i a1
  obtain⟨xs,m,rfl,rfl,hl,a5,hf⟩:=fF Tryz.underlying250 h
  have U:Tryz.prog.cellsOf 250=1:=by kernel_rfl
  have a4:xs.length=1:=by simpa using a5
  have j:=hf 0 _ rfl
  have R:Tryz.prog.cellsOf 248=1:=by kernel_rfl
  obtain⟨x0,rfl⟩:∃x0,xs= [x0]:=by
   match xs,a4 with
   | [x0],_=>exact⟨x0,rfl⟩
  simp only[List.map_cons,List.map_nil,DataW.agg.injEq,List.cons.injEq,and_true] at J
  cases v with
  |agg cs=>
   have a0:cs.toList.length=1:=by rw[<-U];simpa[jq] using hl
   obtain⟨v0,I⟩:∃v0,cs.toList= [v0]:=by
    match hq:cs.toList,a0 with
    | [v0],_=>exact⟨v0,rfl⟩
   have j:dA (funcToken Tryz.prog) Tryz.prog w 0 (λ_=>af) af m 248 [v0]=ah x0:=by
    have t:dA (funcToken Tryz.prog) Tryz.prog w 0 (λ_=>af) af m 248 ((((kQ cs).cells.toList).drop 0).take (Tryz.prog.cellsOf 248))=ah x0:=j
    rw[R] at t
    have e:(kQ cs).cells.toList= [v0]:=I
    rw[e] at t
    exact t
   have a3:x0=(.held (b::r),x0.2):=by rw[<-J]
   rw[a3] at j
   have:=func_of_trod (f0:=f0) Tryz.underlying248 a2 j
   subst this
   rw[show cs= #[.func (.func f0) #[] #[]] from by rw[<-Array.toList_inj];exact I]
  |_=>exact jv a1 (by simp[Value.formed,Tryz.underlying250])
 ·cases h
theorem Zvg{v:Value} {n:Int} (h:keyOf Tryz.prog 3 v=ah (.int .i64 n)):v= .int .i64 n:=Z3t Tryz.underlying3 h
abbrev Zr4:List (Value×SV thy):= [binE 3 303,binE 4 304,binE 5 305,binE 6 306,binE 7 307,binE 8 308,binE 9 310,binE 10 311,binE 11 312]
def Zmy(j:Nat):Nat:= [303,304,305,306,307,308,310,311,312].getD j 0
theorem Zeu:∀(j:Nat) p,Zr4[j]? =ah p->p=binE (j+3) (Zmy j)
 |0,p,h=>by cases h;rfl
 |1,p,h=>by cases h;rfl
 |2,p,h=>by cases h;rfl
 |3,p,h=>by cases h;rfl
 |4,p,h=>by cases h;rfl
 |5,p,h=>by cases h;rfl
 |6,p,h=>by cases h;rfl
 |7,p,h=>by cases h;rfl
 |8,p,h=>by cases h;rfl
 |j+9,p,h=>by simp[Zr4] at h
theorem Z50:∀(j:Nat) p,Zr4[j]? =ah p->Zr4[j]? =ah (binE (j+3) (Zmy j)):=λj p h=>by rw[h,Zeu j p h]
set_option maxRecDepth 100000 in
theorem Z51{W:World} (h:laidMetH Tryz.prog Z9w W):∃v,W.cell? ⟨1,0,aD⟩=ah v/\Den E (λ_=>aD) (gTop W) (.pmap [binE 3 303,binE 4 304,binE 5 305,binE 6 306,binE 7 307,binE 8 308,binE 9 310,binE 10 311,binE 11 312]) v:=by
 obtain⟨g,t,cs,fuel,p,hg,ht,hv,hd⟩:=h.funcs (List.mem_singleton.2 rfl);obtain rfl:=aU (gBin.symm.trans hg);obtain rfl:=aU (tBin.symm.trans ht);have a6:dA (funcToken Tryz.prog) Tryz.prog W 0 (λ_=>af) af fuel 252 cs.toList=ah (.map binD,p):=hd;rcases WideElems.open_map Tryz.underlying252 a6 with⟨_,hx⟩|⟨b,a0,b3,n,rfl,a5,hb,_,F,hx⟩
 ·simp at hx
 simp only[Prod.mk.injEq,DataW.map.injEq] at hx;have a3:∀q,q∈binD↔q∈a0.toList.map (eW Tryz.prog 3 (dy (funcToken Tryz.prog) Tryz.prog W 0 (λ_=>af) af n 250)):=λq=>by rw[hx.1];exact Zhn
 have a4:W.cell? ⟨1,0,aD⟩=ah (.map (ah b)):=by
  have:=World.var?_cell hg hv 0;rw[Array.eq_one_of_toList a5] at this
  simpa using this
 refine⟨_,a4,?_⟩;have entry:∀e∈a0.toList,∃y,keyOf Tryz.prog 3 e.key=ah (eW Tryz.prog 3 (dy (funcToken Tryz.prog) Tryz.prog W 0 (λ_=>af) af n 250) e).1/\
  dy (funcToken Tryz.prog) Tryz.prog W 0 (λ_=>af) af n 250 e.val=ah y/\y.1=(eW Tryz.prog 3 (dy (funcToken Tryz.prog) Tryz.prog W 0 (λ_=>af) af n 250) e).2:=by
  intro e R;obtain⟨z,hz⟩:=F.reads e R;have a2:eW Tryz.prog 3 (dy (funcToken Tryz.prog) Tryz.prog W 0 (λ_=>af) af n 250) e=z:=by unfold eW;rw[hz];rfl
  rw[a2];unfold WideElems.rd at hz;simp only[an,Option.map_eq_some_iff] at hz;obtain⟨key,a1,y,h2,rfl⟩:=hz;exact⟨y,a1,h2,rfl⟩
 have one:∀(j:Nat) (k f0:Nat) (nm:List UInt8),binD[j]? =ah (.int .i64 k,.agg [.held nm])->(∃b r,nm=b::r)->((cy Tryz.prog.funcs.size).filter λf=>(Tryz.prog.funcs[f]?).any (·.name.toUTF8.data.toList==nm))= [f0]->
  ∀e∈a0.toList,eW Tryz.prog 3 (dy (funcToken Tryz.prog) Tryz.prog W 0 (λ_=>af) af n 250) e=(.int .i64 k,.agg [.held nm])->e.key= .int .i64 k/\e.val= .agg #[.func (.func f0) #[] #[]]:=by
  rintro j k f0 nm I ⟨b0,r0,rfl⟩ a8 e R a2;obtain⟨y,a1,h2,h3⟩:=entry e R;rw[a2] at a1 h3;exact⟨Zvg a1,Z5z a8 h2 h3⟩
 have all:∀e∈a0.toList,∃(j:Nat) (k f0:Nat),Zr4[j]? =ah (binE k f0)/\e.key= .int .i64 k/\e.val= .agg #[.func (.func f0) #[] #[]]:=by
  intro e R;have J:eW Tryz.prog 3 (dy (funcToken Tryz.prog) Tryz.prog W 0 (λ_=>af) af n 250) e∈binD:=(a3 _).2 (List.mem_map_of_mem R);simp only[binD,bE,List.not_mem_nil,or_false] at J;rcases J with J|J|J|J|J|J|J|J|J
  ·exact⟨0,3,303,rfl,one 0 3 303 _ rfl ⟨_,_,rfl⟩ (by kernel_rfl) e R J⟩
  ·exact⟨1,4,304,rfl,one 1 4 304 _ rfl ⟨_,_,rfl⟩ (by kernel_rfl) e R J⟩
  ·exact⟨2,5,305,rfl,one 2 5 305 _ rfl ⟨_,_,rfl⟩ (by kernel_rfl) e R J⟩
  ·exact⟨3,6,306,rfl,one 3 6 306 _ rfl ⟨_,_,rfl⟩ (by kernel_rfl) e R J⟩
  ·exact⟨4,7,307,rfl,one 4 7 307 _ rfl ⟨_,_,rfl⟩ (by kernel_rfl) e R J⟩
  ·exact⟨5,8,308,rfl,one 5 8 308 _ rfl ⟨_,_,rfl⟩ (by kernel_rfl) e R J⟩
  ·exact⟨6,9,310,rfl,one 6 9 310 _ rfl ⟨_,_,rfl⟩ (by kernel_rfl) e R J⟩
  ·exact⟨7,10,311,rfl,one 7 10 311 _ rfl ⟨_,_,rfl⟩ (by kernel_rfl) e R J⟩
  ·exact⟨8,11,312,rfl,one 8 11 312 _ rfl ⟨_,_,rfl⟩ (by kernel_rfl) e R J⟩
 have back:∀(j:Nat) (k f0:Nat),Zr4[j]? =ah (binE k f0)->∃e∈a0.toList,e.key= .int .i64 k:=by
  intro j k f0 I;obtain⟨d,hd⟩:∃d,((.int .i64 k:Lit),d)∈binD:=by
   match j,I with
   |0,I=>cases I;exact⟨_,by simp[binD];try rfl⟩
   |1,I=>cases I;exact⟨_,by simp[binD];try rfl⟩
   |2,I=>cases I;exact⟨_,by simp[binD];try rfl⟩
   |3,I=>cases I;exact⟨_,by simp[binD];try rfl⟩
   |4,I=>cases I;exact⟨_,by simp[binD];try rfl⟩
   |5,I=>cases I;exact⟨_,by simp[binD];try rfl⟩
   |6,I=>cases I;exact⟨_,by simp[binD];try rfl⟩
   |7,I=>cases I;exact⟨_,by simp[binD];try rfl⟩
   |8,I=>cases I;exact⟨_,by simp[binD];try rfl⟩
   |j+9,I=>simp at I
  obtain⟨e,R,a2⟩:=List.mem_map.1 ((a3 _).1 hd);obtain⟨y,a1,h2,h3⟩:=entry e R;rw[a2] at a1;exact⟨e,R,Zvg a1⟩
 refine Den.pmap (ents:=a0) (λj=> .agg #[.func (.func (Zmy j)) #[] #[]]) (ah .i64) ?_ ?_ ?_ ?_ ?_ ?_
 ·show(match W.heap[b]? with|some (.map a0 _)=>ah a0|_=>aD)=ah a0
  rw[hb]
 ·intro j k sv I
  have:=Zeu j _ I;cases this;exact⟨_,rfl⟩
 ·intro j j' k sv a9 I a7
  have U:=jy ay (Zeu j _ I);have e2:=jy ay (Zeu j' _ a7);have e3:(Value.int .i64 ((j+3:Nat):Int))= .int .i64 ((j'+3:Nat):Int):=U.symm.trans e2;injection e3 with _ e4
  omega
 ·intro e R
  obtain⟨j,k,f0,I,hk,hv⟩:=all e R;have U:=Zeu j _ I;refine⟨j,.agg [.fn (.func f0) [] []],by rw[hk];exact I,?_⟩;rw[hv];have e2:=jy aJ U;have e2:(SV.agg [SV.fn (.func f0) [] []]:SV thy)= .agg [.fn (.func (Zmy j)) [] []]:=e2;injection e2 with e3
  injection e3 with e4 _
  injection e4 with e5
  rw[e5]
 ·intro j k sv I
  have U:=jy ay (Zeu j _ I);obtain⟨e,R,hk⟩:=back j (j+3) (Zmy j) (Z50 j _ I);exact⟨e,R,hk.trans U.symm⟩
 ·intro j k sv I
  have U:=jy aJ (Zeu j _ I);have U:sv= .agg [.fn (.func (Zmy j)) [] []]:=U;rw[U];refine .agg (λ_=> .func (.func (Zmy j)) #[] #[]) rfl (λq J=> ?_) (λq a9 J=> ?_)
  ·match q,J with
   |0,_=>rfl
  ·match q,J with
   |0,J=>
    cases J;exact .fn (λ_=>undef) (λ_=>undef) rfl (λq J=>jv J (iU _)) (λq sv J=>by simp at J) rfl (λq J=>jv J (iU _)) (λq sv J=>by simp at J)
end
section
open Go.RowKit
set_option maxHeartbeats 400000 in
theorem Zum(a:Int) (w:World) (h: -9007199254740992<=a) (h2:a<=9007199254740992):
 Calls Tryz.prog 315 #[.int .i64 a] w λe w'=>e= .returned (.int .u64 a.natAbs)/\w=w':=by
 go_enter Tryz.func315,Tryz.ntmps315
 go_wp2_with fail
 all_goals go_ret
 ·exact⟨Zej (by simp only[dj];omega),rfl⟩
 ·exact⟨Zej (by omega),rfl⟩
set_option maxHeartbeats 400000 in
theorem Z37(a:Addr) (n c:Nat) (zs:List Int) (w:World) (hl:zs.length=n) (hn:n<=1000) (hc:∀i,i<n->w.cell? (a.add i)=ah (.int .i64 (zs.getD i 0))):
 Calls Tryz.prog 313 #[.slice (ah a) n c] w λe w'=>e= .returned (.bool (zs.all inR))/\w=w':=by
 have H:=cj hl
 clear hl
 go_enter Tryz.func313,Tryz.ntmps313
 go_wp2_with fail
 go_loop [4,7] (λ_ i=>∃k:Nat,k<=n/\i= .int .i64 k/\(zs.take k).all inR=af) (λ_ i=>n-(intOf i).toNat)
 case atStart=>exact⟨0,bg _,rfl,rfl⟩
 case round=>
  obtain⟨k,hk,rfl,hr⟩:=hrel
  have HR:=cj hr
  clear hr
  by_cases hlt:k<n
  ·have hcell:=hc k hlt
   have hg:zs.getD k 0=zs[k]'(by rw[H.out];exact hlt):=by simp[H.out,hlt]
   have hts:zs.take (k+1)=zs.take k++ [zs.getD k 0]:=by
    rw[dV (by rw[H.out];exact hlt),hg]
   have hall:inR (zs.getD k 0)=ae->zs.all inR=false:=by
    intro h
    rw[jN]
    intro hh
    have:=(ik.1 hh) (zs.getD k 0) (by rw[hg];exact List.getElem_mem _)
    rw[h] at this
    cases this
   have HT:=cj hts
   have HA:=cj hall
   clear hts hg hc hall
   generalize zs.getD k 0=z at*
   by_cases hz1:z< -9007199254740992
   ·go_wp2_with fail
    go_ret
    exact⟨Zd5 (HA.out (inR_not.2 (by omega))).symm,rfl⟩
   ·by_cases hz2:9007199254740992<z
    ·go_wp2_with fail
     go_ret
     exact⟨Zd5 (HA.out (inR_not.2 (by omega))).symm,rfl⟩
    ·go_wp2_with fail
     go_round
     case rel=>exact⟨k+1,by omega,by go_num,by rw[HT.out];simp[HR.out,inR_iff];omega⟩
     case measure=>simp[intOf];omega
  ·have hkn:zs.length<=k:=by rw[H.out];omega
   have HK:=cj hkn
   clear hkn
   go_wp2_with fail
   go_ret
   exact⟨Zd5 (by rw[<-HR.out,aN HK.out]),rfl⟩
set_option maxHeartbeats 400000 in
theorem Zgn(a:Int) (w:World):
 Calls Tryz.prog 314 #[.int .i64 a] w λe w'=>e= .returned (.tuple #[.int .i64 (rngF a).1,.int .i64 (rngF a).2])/\Ext w w':=by
 cases h:inR a
 all_goals
  have e0: [a].all inR=inR a:=by simp
  rw[h] at e0
  have H:=cj h
  have E0:=cj e0
  clear h e0
  go_enter Tryz.func314,Tryz.ntmps314
  go_wp2_with fail
  refine(Z37 _ 1 _ [a] _ rfl (by omega) ?_).mono ?_
  ·intro i hi
   obtain rfl:i=0:=by omega
   simp[go_sem]
  rw[E0.out]
  rintro e w1 ⟨rfl,rfl⟩
  go_wp2_with fail
  go_ret2
  exact⟨Zq (by simp[rngF,H.out]) (by simp[rngF,H.out]),(dw _).alloc _⟩
set_option maxHeartbeats 400000 in
theorem Wj(a b:Int) (w:World) (A:Addr) (c:Nat) (j:w.cell? (A.add 0)=ah (.int .i64 a)) (t:w.cell? (A.add 1)=ah (.int .i64 b)) (r:Bool) (I:Hid ((inR a&&inR b)=r)):
 Calls Tryz.prog 313 #[.slice (ah A) 2 c] w λe w'=>e= .returned (.bool r)/\w=w':=by
 refine(Z37 A 2 c [a,b] w rfl (by omega) ?_).mono λe w' h=> ?_
 ·intro i hi
  match i,hi with
  |0,_=>exact j
  |1,_=>exact t
 ·simpa[I.out] using h
set_option maxHeartbeats 400000 in
theorem Z5a(a b:Int) (w:World):
 Calls Tryz.prog 303 #[.int .i64 a,.int .i64 b] w λe w'=>e= .returned (.tuple #[.int .i64 (addF a b).1,.int .i64 (addF a b).2])/\Ext w w':=by
 cases h:inR a&&inR b
 ·have H:=cj h
  clear h
  go_enter Tryz.func303,Tryz.ntmps303
  go_wp2_with fail
  refine(Wj a b _ _ _ (by simp[go_sem]) (by simp[go_sem]) _ H).mono ?_
  rintro e w1 ⟨rfl,rfl⟩
  go_wp2_with fail
  go_ret2
  exact⟨Zq (by simp only[addF,H.out];rfl) (by simp only[addF,H.out];rfl),(dw _).alloc _⟩
 ·have H:=cj h
  have hb:=h
  simp only[az,inR_iff] at hb
  obtain⟨⟨h1,h2⟩,h3,h4⟩:=hb
  clear h
  go_enter Tryz.func303,Tryz.ntmps303
  go_wp2_with fail
  refine(Wj a b _ _ _ (by simp[go_sem]) (by simp[go_sem]) _ H).mono ?_
  rintro e w1 ⟨rfl,rfl⟩
  go_wp2_with fail
  refine(Zgn _ _).mono ?_
  rintro e w1 ⟨rfl,hx⟩
  go_wp2_with fail
  go_ret2
  exact⟨Zq (by simp only[addF,H.out];rfl) (by simp only[addF,H.out];rfl),((dw _).alloc _).trans hx⟩
set_option maxHeartbeats 400000 in
theorem Z5b(a b:Int) (w:World):
 Calls Tryz.prog 304 #[.int .i64 a,.int .i64 b] w λe w'=>e= .returned (.tuple #[.int .i64 (subF a b).1,.int .i64 (subF a b).2])/\Ext w w':=by
 cases h:inR a&&inR b
 ·have H:=cj h
  clear h
  go_enter Tryz.func304,Tryz.ntmps304
  go_wp2_with fail
  refine(Wj a b _ _ _ (by simp[go_sem]) (by simp[go_sem]) _ H).mono ?_
  rintro e w1 ⟨rfl,rfl⟩
  go_wp2_with fail
  go_ret2
  exact⟨Zq (by simp only[subF,H.out];rfl) (by simp only[subF,H.out];rfl),(dw _).alloc _⟩
 ·have H:=cj h
  have hb:=h
  simp only[az,inR_iff] at hb
  obtain⟨⟨h1,h2⟩,h3,h4⟩:=hb
  clear h
  go_enter Tryz.func304,Tryz.ntmps304
  go_wp2_with fail
  refine(Wj a b _ _ _ (by simp[go_sem]) (by simp[go_sem]) _ H).mono ?_
  rintro e w1 ⟨rfl,rfl⟩
  go_wp2_with fail
  refine(Zgn _ _).mono ?_
  rintro e w1 ⟨rfl,hx⟩
  go_wp2_with fail
  go_ret2
  exact⟨Zq (by simp only[subF,H.out];rfl) (by simp only[subF,H.out];rfl),((dw _).alloc _).trans hx⟩
set_option maxHeartbeats 400000 in
theorem Zun(x y:Nat) (hx:x<=9007199254740992) (hy:y<=9007199254740992) (w:World):
 Calls Tryz.prog 97 #[.int .u64 x,.int .u64 y] w λe w'=>e= .returned (.tuple #[.int .u64 (x*y/18446744073709551616:Nat),.int .u64 (x*y%18446744073709551616:Nat)])/\w=w':=by
 go_enter Tryz.func97,Tryz.ntmps97
 go_wp2_with fail
 go_ret2
 refine⟨Zq ?_ (Yb5 x y),rfl⟩
 rw[Zv3 x (by omega),Zv3 y (by omega)]
 have h:=Yb4 (x%4294967296) (x/4294967296) (y%4294967296) (y/4294967296) (by omega) (by omega) (by omega) (by omega)
 rw[Zv2 x y]
 exact h
set_option maxHeartbeats 400000 in
theorem Z5c(a b:Int) (w:World):
 Calls Tryz.prog 305 #[.int .i64 a,.int .i64 b] w λe w'=>e= .returned (.tuple #[.int .i64 (mulF a b).1,.int .i64 (mulF a b).2])/\Ext w w':=by
 cases h:inR a&&inR b
 ·have H:=cj h
  clear h
  go_enter Tryz.func305,Tryz.ntmps305
  go_wp2_with fail
  refine(Wj a b _ _ _ (by simp[go_sem]) (by simp[go_sem]) _ H).mono ?_
  rintro e w1 ⟨rfl,rfl⟩
  go_wp2_with fail
  go_ret2
  exact⟨Zq (by simp only[mulF,H.out];rfl) (by simp only[mulF,H.out];rfl),(dw _).alloc _⟩
 ·have H:=cj h
  have hb:=h
  simp only[az,inR_iff] at hb
  obtain⟨⟨h1,h2⟩,h3,h4⟩:=hb
  clear h
  have hm:=Zpy h1 h2 h3 h4
  have hle:a.natAbs*b.natAbs<=9007199254740992*9007199254740992:=Nat.mul_le_mul (by omega) (by omega)
  have ha:=Zum a
  have hb:=Zum b
  have hM:=Zun a.natAbs b.natAbs (by omega) (by omega)
  have HM:=cj hM
  have HA:=cj ha
  have HB:=cj hb
  clear ha hb hM
  have hab:inR (a*b)=af-> -9007199254740992<=a*b/\a*b<=9007199254740992:=inR_iff.1
  by_cases hz:a.natAbs*b.natAbs<=9007199254740992
  ·have hin:inR (a*b)=true:=by rw[hm];simp[hz]
   have hx:=hab hin
   obtain⟨hx1,hx2⟩:=hx
   have z1:((a.natAbs*b.natAbs/18446744073709551616:Nat):Int)=0:=by omega
   have z2:((a.natAbs*b.natAbs%18446744073709551616:Nat):Int)<=9007199254740992:=by omega
   have HI:=cj hin
   have Z1:=cj z1
   have Z2:=cj z2
   clear hin hm hab z1 z2 hz hle
   go_enter Tryz.func305,Tryz.ntmps305
   go_wp2_with fail
   refine(Wj a b _ _ _ (by simp[go_sem]) (by simp[go_sem]) _ H).mono ?_
   rintro e w1 ⟨rfl,rfl⟩
   go_wp2_with fail
   refine(HA.out _ h1 h2).mono ?_
   rintro e w1 ⟨rfl,rfl⟩
   go_wp2_with fail
   refine(HB.out _ h3 h4).mono ?_
   rintro e w1 ⟨rfl,rfl⟩
   go_wp2_with fail
   refine(HM.out _).mono ?_
   rw[Z1.out]
   have z2:=Z2.out
   generalize ((a.natAbs*b.natAbs%18446744073709551616:Nat):Int)=q at*
   rintro e w1 ⟨rfl,rfl⟩
   go_wp2_with fail
   go_ret2
   exact⟨Zq (by simp only[mulF,H.out,rngF,HI.out];rfl) (by simp only[mulF,H.out,rngF,HI.out];rfl),(dw _).alloc _⟩
  ·have hin:inR (a*b)=false:=by rw[hm];simp[hz]
   have HI:=cj hin
   clear hin hm hab
   generalize a.natAbs*b.natAbs=p at*
   have hp2:((p/18446744073709551616:Nat):Int)=0/\9007199254740992<((p%18446744073709551616:Nat):Int)\/0<((p/18446744073709551616:Nat):Int):=by omega
   generalize ((p/18446744073709551616:Nat):Int)=q1 at*
   generalize ((p%18446744073709551616:Nat):Int)=q2 at*
   clear hz hle
   rcases hp2 with⟨rfl,hq⟩|hq
   all_goals
    go_enter Tryz.func305,Tryz.ntmps305
    go_wp2_with fail
    refine(Wj a b _ _ _ (by simp[go_sem]) (by simp[go_sem]) _ H).mono ?_
    rintro e w1 ⟨rfl,rfl⟩
    go_wp2_with fail
    refine(HA.out _ h1 h2).mono ?_
    rintro e w1 ⟨rfl,rfl⟩
    go_wp2_with fail
    refine(HB.out _ h3 h4).mono ?_
    rintro e w1 ⟨rfl,rfl⟩
    go_wp2_with fail
    refine(HM.out _).mono ?_
    rintro e w1 ⟨rfl,rfl⟩
    go_wp2_with fail
    go_ret2
    exact⟨Zq (by simp only[mulF,H.out,rngF,HI.out];rfl) (by simp only[mulF,H.out,rngF,HI.out];rfl),(dw _).alloc _⟩
set_option maxHeartbeats 400000 in
theorem Z5d(a b m:Int) (w:World):
 Calls Tryz.prog 309 #[.int .i64 a,.int .i64 b,.int .i64 m] w λe w'=>e= .returned (.tuple #[.int .i64 (divF a b m).1,.int .i64 (divF a b m).2])/\Ext w w':=by
 by_cases hm:m<8\/10<m
 ·have HM:=cj hm
  have g1:(m !=8)=true:=by rw[gM];omega
  have g2:(m !=9)=true:=by rw[gM];omega
  have g3:(m !=10)=true:=by rw[gM];omega
  clear hm
  go_enter Tryz.func309,Tryz.ntmps309
  go_wp2_with fail
  go_ret2
  exact⟨Zq (by simp only[divF,jh HM.out]) (by simp only[divF,jh HM.out]),dw _⟩
 ·have HM:=cj hm
  have hm3:m=8\/m=9\/m=10:=by omega
  clear hm
  cases h:inR a&&inR b
  ·have H:=cj h
   clear h
   rcases hm3 with rfl|rfl|rfl
   all_goals
    go_enter Tryz.func309,Tryz.ntmps309
    go_wp2_with fail
    refine(Wj a b _ _ _ (by simp[go_sem]) (by simp[go_sem]) _ H).mono ?_
    rintro e w1 ⟨rfl,rfl⟩
    go_wp2_with fail
    go_ret2
    exact⟨Zq (by simp only[divF,jb HM.out,H.out];rfl) (by simp only[divF,jb HM.out,H.out];rfl),(dw _).alloc _⟩
  ·have H:=cj h
   have hb:=h
   simp only[az,inR_iff] at hb
   obtain⟨⟨h1,h2⟩,h3,h4⟩:=hb
   clear h
   by_cases hb0:b<=0
   ·have HB0:=cj hb0
    rcases hm3 with rfl|rfl|rfl
    all_goals
     go_enter Tryz.func309,Tryz.ntmps309
     go_wp2_with fail
     refine(Wj a b _ _ _ (by simp[go_sem]) (by simp[go_sem]) _ H).mono ?_
     rintro e w1 ⟨rfl,rfl⟩
     go_wp2_with fail
     go_ret2
     exact⟨Zq (by simp only[divF,jb HM.out,H.out,jh HB0.out];rfl) (by simp only[divF,jb HM.out,H.out,jh HB0.out];rfl),(dw _).alloc _⟩
   ·have HB0:=cj hb0
    have hb1:0<b:=by omega
    rcases hm3 with rfl|rfl|rfl
    ·go_enter Tryz.func309,Tryz.ntmps309
     go_wp2_with fail
     refine(Wj a b _ _ _ (by simp[go_sem]) (by simp[go_sem]) _ H).mono ?_
     rintro e w1 ⟨rfl,rfl⟩
     go_wp2_with fail
     ·have ht:a.tmod b<0:=by assumption
      go_ret2
      exact⟨Zq (by rw[Zh1 hb1 ht];simp[divF,H.out,dF.2 hb1]) (by simp[divF,H.out,dF.2 hb1]),(dw _).alloc _⟩
     ·have ht:0<=a.tmod b:=by assumption
      go_ret2
      exact⟨Zq (by rw[Ze0 hb1 ht];simp[divF,H.out,dF.2 hb1]) (by simp[divF,H.out,dF.2 hb1]),(dw _).alloc _⟩
    ·go_enter Tryz.func309,Tryz.ntmps309
     go_wp2_with fail
     refine(Wj a b _ _ _ (by simp[go_sem]) (by simp[go_sem]) _ H).mono ?_
     rintro e w1 ⟨rfl,rfl⟩
     go_wp2_with fail
     ·have ht:0<a.tmod b:=by assumption
      go_ret2
      exact⟨Zq (by rw[Yb2 hb1 ht];simp[divF,H.out,dF.2 hb1]) (by simp[divF,H.out,dF.2 hb1]),(dw _).alloc _⟩
     ·have ht:a.tmod b<=0:=by assumption
      go_ret2
      exact⟨Zq (by rw[Yb3 hb1 ht];simp[divF,H.out,dF.2 hb1]) (by simp[divF,H.out,dF.2 hb1]),(dw _).alloc _⟩
    ·go_enter Tryz.func309,Tryz.ntmps309
     go_wp2_with fail
     refine(Wj a b _ _ _ (by simp[go_sem]) (by simp[go_sem]) _ H).mono ?_
     rintro e w1 ⟨rfl,rfl⟩
     go_wp2_with fail
     ·have ht:(2*a+b).tmod (2*b)<0:=by assumption
      go_ret2
      exact⟨Zq (by rw[Zh1 (by omega) ht];simp[divF,H.out,dF.2 hb1]) (by simp[divF,H.out,dF.2 hb1]),(dw _).alloc _⟩
     ·have ht:0<=(2*a+b).tmod (2*b):=by assumption
      go_ret2
      exact⟨Zq (by rw[Ze0 (by omega) ht];simp[divF,H.out,dF.2 hb1]) (by simp[divF,H.out,dF.2 hb1]),(dw _).alloc _⟩
set_option maxHeartbeats 400000 in
theorem Vz(a:Int) (w:World):
 Calls Tryz.prog 222 #[.int .i64 a] w λe w'=>e= .returned (.bool (inR a))/\w=w':=by
 go_enter Tryz.func222,Tryz.ntmps222
 go_wp2_with fail
 all_goals go_ret
 all_goals exact⟨Zd5 (by simp[inR];try omega),rfl⟩
set_option maxHeartbeats 400000 in
theorem Zdd(a:Int) (w:World):
 Calls Tryz.prog 223 #[.int .i64 a] w λe w'=>e= .returned (.tuple #[.int .i64 (rngF a).1,.int .i64 (rngF a).2])/\w=w':=by
 have hc:=Vz a
 cases h:inR a
 all_goals
  rw[h] at hc
  have H:=cj h
  have HC:=cj hc
  clear h hc
  go_enter Tryz.func223,Tryz.ntmps223
  go_wp2_with fail
  refine(HC.out _).mono ?_
  rintro e w1 ⟨rfl,rfl⟩
  go_wp2_with fail
  go_ret2
  exact⟨Zq (by simp[rngF,H.out]) (by simp[rngF,H.out]),rfl⟩
set_option maxHeartbeats 400000 in
theorem Zpe(a:Int) (w:World) (h: -9007199254740992<=a) (h2:a<=9007199254740992):
 Calls Tryz.prog 224 #[.int .i64 a] w λe w'=>e= .returned (.int .i64 a.natAbs)/\w=w':=by
 go_enter Tryz.func224,Tryz.ntmps224
 go_wp2_with fail
 all_goals go_ret
 all_goals exact⟨Zej (by omega),rfl⟩
set_option maxHeartbeats 400000 in
theorem Zrn(a b:Int) (w:World) (h: -4503599627370496000<=a) (h2:a<=4503599627370496000) (hb:0<b) (hb2:b<=4503599627370496000):
 Calls Tryz.prog 225 #[.int .i64 a,.int .i64 b] w λe w'=>e= .returned (.int .i64 (a/b))/\w=w':=by
 have q1:=(Zh2 _ hb h h2).1
 have q2:=(Zh2 _ hb h h2).2
 have p1:=(Zdh _ hb h h2).1
 have p2:=(Zdh _ hb h h2).2
 go_enter Tryz.func225,Tryz.ntmps225
 go_wp2_with fail
 ·have ht:a<a.tdiv b*b:=by assumption
  go_ret
  exact⟨Zej (Zpx hb ht),rfl⟩
 ·have ht:a.tdiv b*b<=a:=by assumption
  go_ret
  exact⟨Zej (Z1o hb ht),rfl⟩
set_option maxHeartbeats 400000 in
theorem Z0c(a b:Int) (w:World):
 Calls Tryz.prog 179 #[.int .i64 a,.int .i64 b] w λe w'=>e= .returned (.tuple #[.int .i64 (addF a b).1,.int .i64 (addF a b).2])/\w=w':=by
 have ha:=Vz a
 have hb:=Vz b
 cases h:inR a
 ·rw[h] at ha
  have H:=cj h
  have HA:=cj ha
  clear h ha hb
  go_enter Tryz.func179,Tryz.ntmps179
  go_wp2_with fail
  refine(HA.out _).mono ?_
  rintro e w1 ⟨rfl,rfl⟩
  go_wp2_with fail
  go_ret2
  exact⟨Zq (by simp[addF,H.out]) (by simp[addF,H.out]),rfl⟩
 ·have h1:=(inR_iff.1 h).1
  have h2:=(inR_iff.1 h).2
  rw[h] at ha
  have H:=cj h
  have HA:=cj ha
  clear h ha
  cases h:inR b
  ·rw[h] at hb
   have HH:=cj h
   have HB:=cj hb
   clear h hb
   go_enter Tryz.func179,Tryz.ntmps179
   go_wp2_with fail
   refine(HA.out _).mono ?_
   rintro e w1 ⟨rfl,rfl⟩
   go_wp2_with fail
   refine(HB.out _).mono ?_
   rintro e w1 ⟨rfl,rfl⟩
   go_wp2_with fail
   go_ret2
   exact⟨Zq (by simp[addF,H.out,HH.out]) (by simp[addF,H.out,HH.out]),rfl⟩
  ·have h3:=(inR_iff.1 h).1
   have h4:=(inR_iff.1 h).2
   rw[h] at hb
   have HH:=cj h
   have HB:=cj hb
   clear h hb
   go_enter Tryz.func179,Tryz.ntmps179
   go_wp2_with fail
   refine(HA.out _).mono ?_
   rintro e w1 ⟨rfl,rfl⟩
   go_wp2_with fail
   refine(HB.out _).mono ?_
   rintro e w1 ⟨rfl,rfl⟩
   go_wp2_with fail
   refine(Zdd _ _).mono ?_
   rintro e w1 ⟨rfl,rfl⟩
   go_wp2_with fail
   go_ret2
   exact⟨Zq (by simp[addF,H.out,HH.out]) (by simp[addF,H.out,HH.out]),rfl⟩
set_option maxHeartbeats 400000 in
theorem Z0d(a b:Int) (w:World):
 Calls Tryz.prog 180 #[.int .i64 a,.int .i64 b] w λe w'=>e= .returned (.tuple #[.int .i64 (subF a b).1,.int .i64 (subF a b).2])/\w=w':=by
 have ha:=Vz a
 have hb:=Vz b
 cases h:inR a
 ·rw[h] at ha
  have H:=cj h
  have HA:=cj ha
  clear h ha hb
  go_enter Tryz.func180,Tryz.ntmps180
  go_wp2_with fail
  refine(HA.out _).mono ?_
  rintro e w1 ⟨rfl,rfl⟩
  go_wp2_with fail
  go_ret2
  exact⟨Zq (by simp[subF,H.out]) (by simp[subF,H.out]),rfl⟩
 ·have h1:=(inR_iff.1 h).1
  have h2:=(inR_iff.1 h).2
  rw[h] at ha
  have H:=cj h
  have HA:=cj ha
  clear h ha
  cases h:inR b
  ·rw[h] at hb
   have HH:=cj h
   have HB:=cj hb
   clear h hb
   go_enter Tryz.func180,Tryz.ntmps180
   go_wp2_with fail
   refine(HA.out _).mono ?_
   rintro e w1 ⟨rfl,rfl⟩
   go_wp2_with fail
   refine(HB.out _).mono ?_
   rintro e w1 ⟨rfl,rfl⟩
   go_wp2_with fail
   go_ret2
   exact⟨Zq (by simp[subF,H.out,HH.out]) (by simp[subF,H.out,HH.out]),rfl⟩
  ·have h3:=(inR_iff.1 h).1
   have h4:=(inR_iff.1 h).2
   rw[h] at hb
   have HH:=cj h
   have HB:=cj hb
   clear h hb
   go_enter Tryz.func180,Tryz.ntmps180
   go_wp2_with fail
   refine(HA.out _).mono ?_
   rintro e w1 ⟨rfl,rfl⟩
   go_wp2_with fail
   refine(HB.out _).mono ?_
   rintro e w1 ⟨rfl,rfl⟩
   go_wp2_with fail
   refine(Zdd _ _).mono ?_
   rintro e w1 ⟨rfl,rfl⟩
   go_wp2_with fail
   go_ret2
   exact⟨Zq (by simp[subF,H.out,HH.out]) (by simp[subF,H.out,HH.out]),rfl⟩
set_option maxHeartbeats 400000 in
theorem Z0e(a b:Int) (w:World):
 Calls Tryz.prog 181 #[.int .i64 a,.int .i64 b] w λe w'=>e= .returned (.tuple #[.int .i64 (mulF a b).1,.int .i64 (mulF a b).2])/\w=w':=by
 have ha:=Vz a
 have hb:=Vz b
 cases h:inR a
 ·rw[h] at ha
  have H:=cj h
  have HA:=cj ha
  clear h ha hb
  go_enter Tryz.func181,Tryz.ntmps181
  go_wp2_with fail
  refine(HA.out _).mono ?_
  rintro e w1 ⟨rfl,rfl⟩
  go_wp2_with fail
  go_ret2
  exact⟨Zq (by simp[mulF,H.out]) (by simp[mulF,H.out]),rfl⟩
 ·have h1:=(inR_iff.1 h).1
  have h2:=(inR_iff.1 h).2
  rw[h] at ha
  have H:=cj h
  have HA:=cj ha
  clear h ha
  cases h:inR b
  ·rw[h] at hb
   have HH:=cj h
   have HB:=cj hb
   clear h hb
   go_enter Tryz.func181,Tryz.ntmps181
   go_wp2_with fail
   refine(HA.out _).mono ?_
   rintro e w1 ⟨rfl,rfl⟩
   go_wp2_with fail
   refine(HB.out _).mono ?_
   rintro e w1 ⟨rfl,rfl⟩
   go_wp2_with fail
   go_ret2
   exact⟨Zq (by simp[mulF,H.out,HH.out]) (by simp[mulF,H.out,HH.out]),rfl⟩
  ·have h3:=(inR_iff.1 h).1
   have h4:=(inR_iff.1 h).2
   rw[h] at hb
   have HH:=cj h
   have HB:=cj hb
   clear h hb
   have hx:=Zpy h1 h2 h3 h4
   have e0:(a==0)=ae\/a=0:=by
    rcases Int.decEq a 0 with h|h
    ·exact .inl (by simpa using h)
    ·exact .inr h
   rcases e0 with e0|rfl
   ·have e1:(a !=0)=true:=by simpa using e0
    have e2:a.natAbs≠0:=by simpa using e0
    have e3:(1:Int)<=(a.natAbs:Int):=by omega
    have hq:(9007199254740992/(a.natAbs:Int)<(b.natAbs:Int))↔¬a.natAbs*b.natAbs<=9007199254740992:=by
     have:=Nat.le_div_iff_mul_le (k:=a.natAbs) (x:=b.natAbs) (y:=9007199254740992) (by omega)
     have hc:((9007199254740992/a.natAbs:Nat):Int)=9007199254740992/(a.natAbs:Int):=Int.natCast_ediv _ _
     rw[Nat.mul_comm a.natAbs,<-this,<-hc,Int.ofNat_lt]
     omega
    have hra:=Zpe a
    have hrb:=Zpe b
    have HRA:=cj hra
    have HRB:=cj hrb
    clear hra hrb e0 e2
    by_cases hz:a.natAbs*b.natAbs<=9007199254740992
    ·have hin:inR (a*b)=true:=by rw[hx];simp[hz]
     have p1:=(inR_iff.1 hin).1
     have p2:=(inR_iff.1 hin).2
     have hq2:¬9007199254740992/(a.natAbs:Int)<(b.natAbs:Int):=λh=>(hq.1 h) hz
     have hq3:(b.natAbs:Int)<=9007199254740992/(a.natAbs:Int):=Int.not_lt.1 hq2
     have HI:=cj hin
     clear hin hx hq hz hq2
     go_enter Tryz.func181,Tryz.ntmps181
     go_wp2_with fail
     refine(HA.out _).mono ?_
     rintro e w1 ⟨rfl,rfl⟩
     go_wp2_with fail
     refine(HB.out _).mono ?_
     rintro e w1 ⟨rfl,rfl⟩
     go_wp2_with fail
     refine(HRB.out _ h3 h4).mono ?_
     rintro e w1 ⟨rfl,rfl⟩
     go_wp2_with fail
     refine(HRA.out _ h1 h2).mono ?_
     generalize (b.natAbs:Int)=nb at*
     generalize (a.natAbs:Int)=na at*
     rintro e w1 ⟨rfl,rfl⟩
     go_wp2_with fail
     go_ret2
     exact⟨Zq (by simp[mulF,H.out,HH.out,rngF,HI.out]) (by simp[mulF,H.out,HH.out,rngF,HI.out]),rfl⟩
    ·have hin:inR (a*b)=false:=by rw[hx];simp[hz]
     have hq2:9007199254740992/(a.natAbs:Int)<(b.natAbs:Int):=hq.2 hz
     have HI:=cj hin
     clear hin hx hq hz
     go_enter Tryz.func181,Tryz.ntmps181
     go_wp2_with fail
     refine(HA.out _).mono ?_
     rintro e w1 ⟨rfl,rfl⟩
     go_wp2_with fail
     refine(HB.out _).mono ?_
     rintro e w1 ⟨rfl,rfl⟩
     go_wp2_with fail
     refine(HRB.out _ h3 h4).mono ?_
     rintro e w1 ⟨rfl,rfl⟩
     go_wp2_with fail
     refine(HRA.out _ h1 h2).mono ?_
     generalize (b.natAbs:Int)=nb at*
     generalize (a.natAbs:Int)=na at*
     rintro e w1 ⟨rfl,rfl⟩
     go_wp2_with fail
     go_ret2
     exact⟨Zq (by simp[mulF,H.out,HH.out,rngF,HI.out]) (by simp[mulF,H.out,HH.out,rngF,HI.out]),rfl⟩
   ·clear hx
    go_enter Tryz.func181,Tryz.ntmps181
    go_wp2_with fail
    refine(HA.out _).mono ?_
    rintro e w1 ⟨rfl,rfl⟩
    go_wp2_with fail
    refine(HB.out _).mono ?_
    rintro e w1 ⟨rfl,rfl⟩
    go_wp2_with fail
    go_ret2
    exact⟨Zq (by simp[mulF,H.out,HH.out,rngF]) (by simp[mulF,H.out,HH.out,rngF]),rfl⟩
set_option maxHeartbeats 400000 in
theorem Z0f(a b m:Int) (w:World) :
    Calls Tryz.prog 182 #[.int .i64 a,.int .i64 b,.int .i64 m] w λe w'=>e=.returned (.tuple #[.int .i64 (divF a b m).1,.int .i64 (divF a b m).2])/\w=w':=by
  by_cases hm:m<8\/10<m
  ·have HM:=cj hm
   rcases hm with hm | hm
   all_goals
     go_enter Tryz.func182,Tryz.ntmps182
     go_wp2_with fail
     go_ret2
     exact⟨Zq (by simp only[divF,jh HM.out]) (by simp only[divF,jh HM.out]),rfl⟩
  ·have HM:=cj hm
   have hm3:m=8\/m=9\/m=10:=by omega
   clear hm
   have ha:=Vz a
   have hb:=Vz b
   cases h:inR a
   ·rw[h] at ha
    have H:=cj h
    have HA:=cj ha
    clear h ha hb
    rcases hm3 with rfl | rfl | rfl
    all_goals
      go_enter Tryz.func182,Tryz.ntmps182
      go_wp2_with fail
      refine(HA.out _).mono ?_
      rintro e w1 ⟨rfl,rfl⟩
      go_wp2_with fail
      go_ret2
      exact⟨Zq (by simp[divF,H.out]) (by simp[divF,H.out]),rfl⟩
   ·have h1:=(inR_iff.1 h).1
    have h2:=(inR_iff.1 h).2
    rw[h] at ha
    have H:=cj h
    have HA:=cj ha
    clear h ha
    cases h:inR b
    ·rw[h] at hb
     have HH:=cj h
     have HB:=cj hb
     clear h hb
     rcases hm3 with rfl | rfl | rfl
     all_goals
       go_enter Tryz.func182,Tryz.ntmps182
       go_wp2_with fail
       refine(HA.out _).mono ?_
       rintro e w1 ⟨rfl,rfl⟩
       go_wp2_with fail
       refine(HB.out _).mono ?_
       rintro e w1 ⟨rfl,rfl⟩
       go_wp2_with fail
       go_ret2
       exact⟨Zq (by simp[divF,H.out,HH.out]) (by simp[divF,H.out,HH.out]),rfl⟩
    ·have h3:=(inR_iff.1 h).1
     have h4:=(inR_iff.1 h).2
     rw[h] at hb
     have HH:=cj h
     have HB:=cj hb
     clear h hb
     by_cases hb0:b<=0
     ·have HB0:=cj hb0
      rcases hm3 with rfl | rfl | rfl
      all_goals
        go_enter Tryz.func182,Tryz.ntmps182
        go_wp2_with fail
        refine(HA.out _).mono ?_
        rintro e w1 ⟨rfl,rfl⟩
        go_wp2_with fail
        refine(HB.out _).mono ?_
        rintro e w1 ⟨rfl,rfl⟩
        go_wp2_with fail
        go_ret2
        exact⟨Zq (by simp[divF,H.out,HH.out,HB0.out]) (by simp[divF,H.out,HH.out,HB0.out]),rfl⟩
     ·have hb1:0<b:=by omega
      clear hb0
      rcases hm3 with rfl | rfl | rfl
      all_goals
        go_enter Tryz.func182,Tryz.ntmps182
        go_wp2_with fail
        refine(HA.out _).mono ?_
        rintro e w1 ⟨rfl,rfl⟩
        go_wp2_with fail
        refine(HB.out _).mono ?_
        rintro e w1 ⟨rfl,rfl⟩
        go_wp2_with fail
        refine(Zrn _ _ _ (by omega) (by omega) (by omega) (by omega)).mono ?_
        rintro e w1 ⟨rfl,rfl⟩
        first
          | (have q1:=(Zd8 _ (show 0<b by omega) h1 h2).1
             have q2:=(Zd8 _ (show 0<b by omega) h1 h2).2
             have q3:=(Zd8 (a:=-a) 9007199254740992 (show 0<b by omega) (by omega) (by omega)).1
             have q4:=(Zd8 (a:=-a) 9007199254740992 (show 0<b by omega) (by omega) (by omega)).2)
        go_wp2_with fail
        go_ret2
        exact⟨Zq (by simp[divF,H.out,HH.out,dF.2 hb1]) (by simp[divF,H.out,HH.out,dF.2 hb1]),rfl⟩
end
section
open Go
noncomputable def dI:Dc E Int:=dInt .i64
noncomputable def dII:DcL E (Int×Int×Unit):= .cons dI (.cons dI .nil)
noncomputable def dIII:DcL E (Int×Int×Int×Unit):= .cons dI (.cons dI (.cons dI .nil))
def Z1g(p:Int×Int):SV thy:= .tup [.int ae .i64 p.1,.int ae .i64 p.2]
theorem Vo{f:Nat} {a b:Int} {p:Int×Int} (h:∀w,Calls Tryz.prog f #[.int .i64 a,.int .i64 b] w λe j=>e= .returned (.tuple #[.int .i64 p.1,.int .i64 p.2])/\Ext w j):PureC E f (dII.enc (a,b,())) (Z1g p):=by
 refine Zft λg w vals t=> ?_;obtain rfl:=Zy3 (vals:=vals) t;refine(h w).mono ?_;rintro en j ⟨rfl,I⟩;exact⟨_,rfl,Zq8,I⟩
theorem Zka{f:Nat} {a b c:Int} {p:Int×Int} (h:∀w,Calls Tryz.prog f #[.int .i64 a,.int .i64 b,.int .i64 c] w λe j=>e= .returned (.tuple #[.int .i64 p.1,.int .i64 p.2])/\Ext w j):PureC E f (dIII.enc (a,b,c,())) (Z1g p):=by
 refine Zft λg w vals t=> ?_;obtain rfl:=Zy4 (vals:=vals) t;refine(h w).mono ?_;rintro en j ⟨rfl,I⟩;exact⟨_,rfl,Zq8,I⟩
noncomputable def S2(f:Int->Int->Int×Int):Sum thy:=sumP dII (λ_=>True) λx=>Z1g (f x.1 x.2.1)
noncomputable def S3(f:Int->Int->Int->Int×Int):Sum thy:=sumP dIII (λ_=>True) λx=>Z1g (f x.1 x.2.1 x.2.2.1)
noncomputable def F1a:Fns thy:=addS (addS (addS (addS F0 303 (S2 addF)) 304 (S2 subF)) 305 (S2 mulF)) 309 (S3 divF)
theorem Z92:FnsOk E F1a:=by
 refine Zc (Zc (Zc (Zc F0_ok ?_) ?_) ?_) ?_
 ·exact Yc E_ok (Ze (f:=303) rfl) λx _=>Vo λw=>Z5a _ _ w
 ·exact Yc E_ok (Ze (f:=304) rfl) λx _=>Vo λw=>Z5b _ _ w
 ·exact Yc E_ok (Ze (f:=305) rfl) λx _=>Vo λw=>Z5c _ _ w
 ·exact Yc E_ok (Ze (f:=309) rfl) λx _=>Zka λw=>Z5d _ _ _ w
noncomputable def Fv1:Fns thy:=addS (addS (addS (addS F1a 179 (S2 addF)) 180 (S2 subF)) 181 (S2 mulF)) 182 (S3 divF)
theorem Zb4:FnsOk E Fv1:=by
 refine Zc (Zc (Zc (Zc Z92 ?_) ?_) ?_) ?_
 ·exact Yc E_ok (Ze (f:=179) rfl) λx _=>Vo λw=>(Z0c _ _ w).mono λe j h=>⟨h.1,h.2▸dw _⟩
 ·exact Yc E_ok (Ze (f:=180) rfl) λx _=>Vo λw=>(Z0d _ _ w).mono λe j h=>⟨h.1,h.2▸dw _⟩
 ·exact Yc E_ok (Ze (f:=181) rfl) λx _=>Vo λw=>(Z0e _ _ w).mono λe j h=>⟨h.1,h.2▸dw _⟩
 ·exact Yc E_ok (Ze (f:=182) rfl) λx _=>Zka λw=>(Z0f _ _ _ w).mono λe j h=>⟨h.1,h.2▸dw _⟩
end
section
open Go
abbrev qBB4(j:Int) (t:Int) (I:Bool):=(decide (mm2 ae j t>=0)=ae->ae=I)
abbrev qBB3(j:Int) (t:Int) (I:Bool):=(decide (mm2 ae j t>=0)=af->(decide (mm2 af j t<=9007199254740992)=af->af=I)/\(decide (mm2 af j t<=9007199254740992)=ae->ae=I))
abbrev qBB1(t:Int) (j:Int) (I:Int) (J:Bool):=((t==t&&(0==0&&(j==0&&af)))=af->(qBB3 I j J)/\(qBB4 I j J))
abbrev qBB2(j:Int) (t:Int) (I:Bool):=((j==j&&(0==0&&(t==0&&af)))=ae->ae=I)
theorem Zog(op n m:Int) (b:Bool):Zk E Fv1 (vc E Fv1 400) 39 [.agg [.int ae .i64 op,.int ae .i64 n,.int ae .i64 m]] hp0 0 (λr=>ret E (patch hp0 0 r) r.v (.bool ae b))=(
 ∃(Q:Bool->Prop),((decide (op<1)=af->Q af)/\(decide (op<1)=ae->(decide (op>=17)=af->Q af)/\(decide (op>=17)=ae->Q ae)))/\(Q af->ae=b)/\(Q ae->((op==1)=af->(qBB1 op m n b)/\(qBB2 op m b))/\((op==1)=ae->((op==13)=af->(qBB1 op m n b)/\(qBB2 op m b))/\((op==13)=ae->((op==14)=af->(qBB1 op m n b)/\(qBB2 op m b))/\((op==14)=ae->((op==15)=af->(qBB1 op m n b)/\(qBB2 op m b))/\((op==15)=ae->((op==2)=af->((op==op&&(0==0&&(m==0&&af)))=af->(decide (mm2 ae n m>=0)=af->(decide (mm2 af n m<=15)=af->af=b)/\(decide (mm2 af n m<=15)=ae->ae=b))/\(qBB4 n m b))/\(qBB2 op m b))/\((op==2)=ae->((op==12)=af->((op==op&&(0==0&&(0==0&&af)))=af->(qBB3 n m b)/\(qBB4 n m b))/\((op==op&&(0==0&&(0==0&&af)))=ae->ae=b))/\((op==12)=ae->((op==op&&(n==0&&(m==0&&af)))=af->(decide (mm2 ae n m>=0)=af->(decide (mm2 af n m<=0)=af->af=b)/\(decide (mm2 af n m<=0)=ae->ae=b))/\(qBB4 n m b))/\((op==op&&(n==0&&(m==0&&af)))=ae->ae=b))))))))):=by kernel_rfl
theorem Zoh(op:Int) (p q:Int):Zk E Fv1 (vc E Fv1 400) 41 [.int ae .i64 op] hp0 0 (λr=>ret E (patch hp0 0 r) r.v (.tup [.int ae .i64 p,.int ae .i64 q]))=(
((op==1)=af->0=p/\1=q/\True)/\((op==1)=ae->((op==2)=af->0=p/\1=q/\True)/\((op==2)=ae->((op==12)=af->1=p/\1=q/\True)/\((op==12)=ae->((op==13)=af->1=p/\0=q/\True)/\((op==13)=ae->((op==15)=af->1=p/\0=q/\True)/\((op==15)=ae->((op==14)=af->0=p/\0=q/\True)/\((op==14)=ae->((op==16)=af->0=p/\0=q/\True)/\((op==16)=ae->2=p/\1=q/\True)))))))):=by kernel_rfl
theorem Ztf(op:Int) (p:Int):Zk E Fv1 (vc E Fv1 400) 131 [.int ae .i64 op] hp0 0 (λr=>ret E (patch hp0 0 r) r.v (.int ae .i64 p))=(
((op==12)=af->1=p)/\((op==12)=ae->((op==13)=af->1=p)/\((op==13)=ae->((op==15)=af->1=p)/\((op==15)=ae->((op==↑3)=af->2=p)/\((op==↑3)=ae->((op==↑4)=af->2=p)/\((op==↑4)=ae->((op==↑5)=af->2=p)/\((op==↑5)=ae->((op==↑6)=af->2=p)/\((op==↑6)=ae->((op==↑7)=af->2=p)/\((op==↑7)=ae->((op==↑8)=af->2=p)/\((op==↑8)=ae->((op==↑9)=af->2=p)/\((op==↑9)=ae->((op==↑10)=af->2=p)/\((op==↑10)=ae->((op==↑11)=af->2=p)/\((op==↑11)=ae->0=p))))))))))))):=by kernel_rfl
abbrev qBB7(j:Int):=(j<=9007199254740992)
abbrev qBB5(j:Int) (I:Int) (t:Bool):=(decide (j>=0)=af->(decide (qBB7 j)=af->((I==0)=af->af=t)/\((I==0)=ae->ae=t))/\(decide (qBB7 j)=ae->ae=t))
abbrev qBB6(j:Int) (t:Bool):=(decide (j>=0)=ae->ae=t)
theorem Zld(op n m:Int) (b:Bool):Zk E Fv1 (vc E Fv1 400) 47 [.agg [.int ae .i64 op,.int ae .i64 n,.int ae .i64 m]] hp0 0 (λr=>ret E (patch hp0 0 r) r.v (.bool ae b))=(
 ((op==1)=af->(qBB5 n m b)/\(qBB6 n b))/\((op==1)=ae->((op==13)=af->(qBB5 n m b)/\(qBB6 n b))/\((op==13)=ae->((op==14)=af->(qBB5 n m b)/\(qBB6 n b))/\((op==14)=ae->((op==15)=af->(qBB5 n m b)/\(qBB6 n b))/\((op==15)=ae->((op==2)=af->(decide (n>=0)=af->(decide (n<=15)=af->((m==0)=af->af=b)/\((m==0)=ae->ae=b))/\(decide (n<=15)=ae->ae=b))/\(qBB6 n b))/\((op==2)=ae->((op==12)=af->(decide (n>=0)=af->(decide (qBB7 n)=af->(decide (m>=0)=af->(decide (qBB7 m)=af->af=b)/\(decide (qBB7 m)=ae->ae=b))/\(qBB6 m b))/\(decide (qBB7 n)=ae->ae=b))/\(qBB6 n b))/\((op==12)=ae->(decide (op>=3)=af->(decide (op<=16)=af->((n==0)=af->((m==0)=af->af=b)/\((m==0)=ae->ae=b))/\((n==0)=ae->ae=b))/\(decide (op<=16)=ae->ae=b))/\(decide (op>=3)=ae->ae=b)))))))):=by kernel_rfl
theorem Ztg(op:Int) (p q:Int):Zk E Fv1 (vc E Fv1 400) 48 [.int ae .i64 op] hp0 0 (λr=>ret E (patch hp0 0 r) r.v (.tup [.int ae .i64 p,.int ae .i64 q]))=(
((op==1)=af->0=p/\1=q/\True)/\((op==1)=ae->((op==2)=af->0=p/\1=q/\True)/\((op==2)=ae->((op==12)=af->1=p/\1=q/\True)/\((op==12)=ae->((op==13)=af->1=p/\0=q/\True)/\((op==13)=ae->((op==15)=af->1=p/\0=q/\True)/\((op==15)=ae->((op==14)=af->0=p/\0=q/\True)/\((op==14)=ae->((op==16)=af->0=p/\0=q/\True)/\((op==16)=ae->2=p/\1=q/\True)))))))):=by kernel_rfl
theorem Zoi(op:Int) (p:Int):Zk E Fv1 (vc E Fv1 400) 143 [.int ae .i64 op] hp0 0 (λr=>ret E (patch hp0 0 r) r.v (.int ae .i64 p))=(
∃(Q:Bool->Prop),((decide (op>=3)=af->(decide (op<=11)=af->Q af)/\(decide (op<=11)=ae->Q ae))/\(decide (op>=3)=ae->Q ae))/\(Q af->2=p)/\(Q ae->∃(Q:Bool->Prop),(((op==12)=af->Q af)/\((op==12)=ae->((op==13)=af->Q af)/\((op==13)=ae->((op==15)=af->Q af)/\((op==15)=ae->Q ae))))/\(Q af->1=p)/\(Q ae->0=p))):=by kernel_rfl
theorem Zle(op a b:Int) (p q:Int):Zk E Fv1 (vc E Fv1 400) 145 [.int ae .i64 op,.int ae .i64 a,.int ae .i64 b] hp0 0 (λr=>ret E (patch hp0 0 r) r.v (.tup [.int ae .i64 p,.int ae .i64 q]))=(
((op==3)=af->True/\ay (addF a b)=p/\aJ (addF a b)=q/\True)/\((op==3)=ae->((op==4)=af->True/\ay (subF a b)=p/\aJ (subF a b)=q/\True)/\((op==4)=ae->((op==5)=af->True/\ay (mulF a b)=p/\aJ (mulF a b)=q/\True)/\((op==5)=ae->((op==6)=af->mm2 ae a b=p/\0=q/\True)/\((op==6)=ae->((op==7)=af->mm2 af a b=p/\0=q/\True)/\((op==7)=ae->((op==8)=af->True/\ay (divF a b 8)=p/\aJ (divF a b 8)=q/\True)/\((op==8)=ae->((op==9)=af->True/\ay (divF a b 9)=p/\aJ (divF a b 9)=q/\True)/\((op==9)=ae->((op==10)=af->True/\ay (divF a b 10)=p/\aJ (divF a b 10)=q/\True)/\((op==10)=ae->(decide (a<b)=af->1=p/\0=q/\True)/\(decide (a<b)=ae->0=p/\0=q/\True)))))))))):=by kernel_rfl
theorem Zoj(c:List Ins) (i:Int) (l:List Int):Zk E Fv1 (vc E Fv1 400) 49 [.psl .ins c ae,.int ae .i64 i] hp0 0 (λr=>ret E (patch hp0 0 r) r.v (.psl .ints l ae))=(
0<=i/\i+1<=↑(ab c)/\∀(x:Ins),c[ag i]? =ah x->((bG x==15)=af->l= [])/\((bG x==15)=ae->((bG x==16)=af->l= [])/\((bG x==16)=ae->((bG x==14)=af->0<=i/\i+1<=↑(ab c)/\∀(x:Ins),c[ag i]? =ah x-> [cd x]=l)/\((bG x==14)=ae->((bG x==13)=af->0<=i/\i+1<=↑(ab c)/\∀(x:Ins),c[ag i]? =ah x-> [wr ac (i+1),cd x]=l)/\((bG x==13)=ae-> [wr ac (i+1)]=l))))):=by kernel_rfl
theorem Zok(x:Ins):PureC E 39 [.agg [.int ae .i64 x.op,.int ae .i64 x.n,.int ae .i64 x.m]] (.bool ae (formedF x)):=by
 refine Za E_ok (Zb E_ok Zb4 400) ?_;rw[Zog];delta qBB4 qBB3 qBB1 qBB2
 repeat' (first|exact Zjd _|apply Zq6|apply Zq7|(refine aK ?_ ?_)|(intro h))
 all_goals(try simp only[Zz,Zs,Ys,Yt,Yu,bw,bD,bh,bJ,gF,gM,fV,fw,fk,az,bZ,cm,aX,ib,Zx,Z4,ne_eq,and_true,true_and,bu,bc,false_or,or_false,jn,bi] at*)
 all_goals(try unfold formedF)
 all_goals(repeat' split)
 all_goals first|contradiction|omega|(symm;simp only[fw,fk];omega)
theorem Zlf(x:Ins):PureC E 47 [.agg [.int ae .i64 x.op,.int ae .i64 x.n,.int ae .i64 x.m]] (.bool ae (formedF x)):=by
 refine Za E_ok (Zb E_ok Zb4 400) ?_;rw[Zld];delta qBB7 qBB5 qBB6;simp only[gF,gM,fV,fw,fk,az,bZ,cm,aX,ib,Zx,Z4,ne_eq,and_true,true_and,bu,bc,false_or,or_false,jn,bi]
 repeat' (first|(refine aK ?_ ?_)|(intro h))
 all_goals(try unfold formedF)
 all_goals(repeat' split)
 all_goals first|contradiction|omega|(symm;simp only[fw,fk];omega)
theorem Zol(op:Int):PureC E 41 [.int ae .i64 op] (.tup [.int ae .i64 (eff op).1,.int ae .i64 (eff op).2]):=by
 refine Za E_ok (Zb E_ok Zb4 400) ?_;rw[Zoh];simp only[gF,gM,fV,fw,fk,az,bZ,cm,aX,ib,Zx,Z4,ne_eq,and_true,true_and,bu,bc,false_or,or_false,jn,bi]
 repeat' (first|(refine aK ?_ ?_)|(intro h))
 all_goals(unfold eff;repeat' split)
 all_goals first|contradiction|omega|rfl
theorem Zth(op:Int):PureC E 48 [.int ae .i64 op] (.tup [.int ae .i64 (eff op).1,.int ae .i64 (eff op).2]):=by
 refine Za E_ok (Zb E_ok Zb4 400) ?_;rw[Ztg];simp only[gF,gM,fV,fw,fk,az,bZ,cm,aX,ib,Zx,Z4,ne_eq,and_true,true_and,bu,bc,false_or,or_false,jn,bi]
 repeat' (first|(refine aK ?_ ?_)|(intro h))
 all_goals(unfold eff;repeat' split)
 all_goals first|contradiction|omega|rfl
theorem Zti(op:Int):PureC E 131 [.int ae .i64 op] (.int ae .i64 (Xi op)):=by
 refine Za E_ok (Zb E_ok Zb4 400) ?_;rw[Ztf];simp only[gF,gM,fV,fw,fk,az,bZ,cm,aX,ib,Zx,Z4,ne_eq,and_true,true_and,bu,bc,false_or,or_false,jn,bi]
 repeat' (first|(refine aK ?_ ?_)|(intro h))
 all_goals(unfold Xi;repeat' split)
 all_goals first|contradiction|omega|rfl
theorem Zom(op:Int):PureC E 143 [.int ae .i64 op] (.int ae .i64 (Xi op)):=by
 refine Za E_ok (Zb E_ok Zb4 400) ?_;rw[Zoi]
 repeat' (first|exact Zjd _|apply Zq6|apply Zq7|(refine aK ?_ ?_)|(intro h))
 all_goals(try simp only[Zz,Zs,Ys,Yt,Yu,bw,bD,bh,bJ,gF,gM,fV,fw,fk,az,bZ,cm,aX,ib,Zx,Z4,ne_eq,and_true,true_and,bu,bc,false_or,or_false,jn,bi] at*)
 all_goals(try unfold Xi)
 all_goals(repeat' split)
 all_goals first|contradiction|omega|rfl
theorem Zlg(op a b:Int):PureC E 145 [.int ae .i64 op,.int ae .i64 a,.int ae .i64 b] (.tup [.int ae .i64 (binF op a b).1,.int ae .i64 (binF op a b).2]):=by
 refine Za E_ok (Zb E_ok Zb4 400) ?_;rw[Zle];unfold binF;simp only[Zz,Zs,Ys,Yt,Yu,gF,gM,fV,fX,fw,fk,bw,bD,bh,bJ,az,bZ,cm,aX,ib,Zx,Z4,ne_eq,and_true,true_and,bu,bc,false_or,or_false,jn,bi,il,iF,bV]
 repeat' (first|exact Zjd _|apply Zq6|apply Zq7|(refine aK ?_ ?_)|(intro h))
 all_goals simp[*]
def Zlh(i:Int) (x:Ins):List Int:=if x.op=15\/x.op=16 then[] else if x.op=14 then[x.n] else if x.op=13 then[i+1,x.n] else[i+1]
theorem Zon(c:List Ins) (i:Int) (x:Ins) (t:0<=i) (I:i<c.length) (J:c.length<=4096) (j:c[i.toNat]? =ah x):PureC E 49 [.psl .ins c ae,.int ae .i64 i] (.psl .ints (Zlh i x) ae):=by
 refine Za E_ok (Zb E_ok Zb4 400) ?_;rw[Zoj];rw[wr64 (by omega) (by omega)];simp only[j,cF,forall_eq'];simp only[Zz,Zs,Ys,Yt,Yu,gF,gM,fV,fX,fw,fk,bw,bD,bh,bJ,az,bZ,cm,aX,ib,Zx,Z4,ne_eq,and_true,true_and,bu,bc,false_or,or_false,jn,bi,il,iF,bV];unfold Zlh
 repeat' (first|exact Zjd _|apply Zq6|apply Zq7|(refine aK ?_ ?_)|(intro h))
 all_goals first|omega|simp[*]
end
section
open Go
noncomputable def dIns:Dc E Ins:= .map (dAgg dIII) (λx=>⟨x.1,x.2.1,x.2.2.1⟩) (λx=>(x.op,x.n,x.m,())) (λ_=>rfl)
noncomputable def Z26:Dc E (List Ins):=(Zlr (E:=E) Th.ins:Dc E (List (thy.dom Th.ins)))
noncomputable def Yca:Dc E (List Int):=(Zlr (E:=E) Th.ints:Dc E (List (thy.dom Th.ints)))
noncomputable def dL1{α:Type} (d:Dc E α):DcL E (α×Unit):= .cons d .nil
noncomputable def dL2{α j:Type} (d:Dc E α) (e:Dc E j):DcL E (α×j×Unit):= .cons d (dL1 e)
noncomputable def dL3{α j t:Type} (d:Dc E α) (e:Dc E j) (f:Dc E t):DcL E (α×j×t×Unit):= .cons d (dL2 e f)
noncomputable def dL4{α j t I:Type} (d:Dc E α) (e:Dc E j) (f:Dc E t) (k:Dc E I):DcL E (α×j×t×I×Unit):= .cons d (dL3 e f k)
noncomputable def Zqz:Sum thy:=sumP (dL1 dIns) (λ_=>True) λx=> .bool ae (formedF x.1)
noncomputable def Seff:Sum thy:=sumP (dL1 dI) (λ_=>True) λx=> .tup [.int ae .i64 (eff x.1).1,.int ae .i64 (eff x.1).2]
noncomputable def Z4w:Sum thy:=sumP (dL1 dI) (λ_=>True) λx=> .int ae .i64 (Xi x.1)
noncomputable def Sbin:Sum thy:=sumP dIII (λ_=>True) λx=> .tup [.int ae .i64 (binF x.1 x.2.1 x.2.2.1).1,.int ae .i64 (binF x.1 x.2.1 x.2.2.1).2]
def Zd0(c:List Ins) (i:Int):List Int:=match c[i.toNat]? with|some x=>Zlh i x|none=> []
noncomputable def Z8d:Sum thy:=sumP (dL2 Z26 dI) (λx=>0<=x.2.1/\x.2.1<x.1.length/\x.1.length<=4096) λx=> .psl .ints (Zd0 x.1 x.2.1) ae
noncomputable def F2a:Fns thy:=addS (addS (addS (addS Fv1 39 Zqz) 41 Seff) 131 Z4w) 143 Z4w
theorem Yaz:FnsOk E F2a:=by
  refine Zc (Zc (Zc (Zc Zb4 ?_) ?_) ?_) ?_
  ·exact Yc E_ok (Ze (f:=39) rfl) λx _=>Zok x.1
  ·exact Yc E_ok (Ze (f:=41) rfl) λx _=>Zol x.1
  ·exact Yc E_ok (Ze (f:=131) rfl) λx _=>Zti x.1
  ·exact Yc E_ok (Ze (f:=143) rfl) λx _=>Zom x.1
noncomputable def Fv2:Fns thy:=addS (addS (addS (addS F2a 47 Zqz) 48 Seff) 145 Sbin) 49 Z8d
theorem Ya0:FnsOk E Fv2:=by
  refine Zc (Zc (Zc (Zc Yaz ?_) ?_) ?_) ?_
  ·exact Yc E_ok (Ze (f:=47) rfl) λx _=>Zlf x.1
  ·exact Yc E_ok (Ze (f:=48) rfl) λx _=>Zth x.1
  ·exact Yc E_ok (Ze (f:=145) rfl) λx _=>Zlg x.1 x.2.1 x.2.2.1
  ·refine Yc E_ok (Ze (f:=49) rfl) λx h=> ?_
   obtain⟨t,I,J⟩:=h;obtain⟨y,j⟩:∃y,x.1[x.2.1.toNat]? =ah y:=⟨x.1[x.2.1.toNat]'(by omega),by simp⟩;have:=Zon x.1 x.2.1 y t I J j;unfold Zd0;rw[j];exact this
/-- the loop of IndexFunc -/
def A48:Fr thy->Hp thy->Nat->Ann thy:=λT h i=>{X:=LX,fr:=λx=> [(0,T 0),(1,T 1),(7,T 7),(8,.int ae .i64 x.k)],bl:=λ_=> [],src:=λ_=> [],md:= [],ih:=i,M:=i+30,meas:=λx=>x.r}
/-- the loop of Repeat -/
def A32:Fr thy->Hp thy->Nat->Ann thy:=λT h i=>{X:=LX,fr:=λx=> [(7,T 7),(8,.int ae .i64 x.k)],bl:=λx=> [(bOf (T 7),.rows .ints x.D 0)],src:=λ_=> [],md:= [bOf (T 7)],ih:=i,M:=i+30,meas:=λx=>x.r}
/-- the loop of Verify -/
def A9:Fr thy->Hp thy->Nat->Ann thy:=λT h i=>{X:=LX,fr:=λx=> [(0,T 0),(2,.int ae .i64 x.m),(4,T 4),(30,T 30),(31,T 31),(32,.int ae .i64 x.k)],bl:=λx=> [(bOf (T 4),.rows .ints x.D 0)],src:=λ_=> [],md:= [bOf (T 4)],ih:=i,M:=i+60,meas:=λx=>x.r}
/-- the loop over what can follow -/
def A9n:Fr thy->Hp thy->Nat->Ann thy:=λT h i=>{X:=LX,fr:=λx=> [(0,T 0),(2,T 2),(4,T 4),(5,T 5),(10,T 10),(30,T 30),(31,T 31),(32,T 32),(110,T 110),(111,T 111),(112,.int ae .i64 x.k)],bl:=λx=>(bOf (T 4),.rows .ints x.D 0)::blkS h (T 110),src:=λ_=> [],md:= [bOf (T 4)],ih:=i,M:=i+20,meas:=λx=>x.r}
noncomputable def F3:Fns thy:=addL (addL (addL (addL Fv2 63 2 A48 E) 40 8 A32 E) 20 8 A9 E) 20 23 A9n E
theorem Z8e:FnsOk E F3:=Zn E_ok (Zn E_ok (Zn E_ok (Zn E_ok Ya0 _ _ _) _ _ _) _ _ _) _ _ _
theorem Ziv{y:Int} (I:0<=y) (h:y<4294967296):Zo .and .u64 y 4294967295=y:=by
  obtain⟨n,rfl⟩:=Int.eq_ofNat_of_zero_le I;have J:n<4294967296:=by omega
  have e:(bW 64 (n:Int)&&&bW 64 4294967295).toNat=n:=by
    rw[BitVec.toNat_and];have j:(bW 64 (n:Int)).toNat=n:=by
      rw[BitVec.toNat_ofInt];omega
    have t:(bW 64 4294967295).toNat=2^32-1:=by decide
    rw[j,t,Nat.and_two_pow_sub_one_eq_mod];omega
  show aA.wrap ((bW 64 (n:Int)&&&bW 64 4294967295).toNat:Int)=n;rw[e,dj];omega
theorem Z4x{n:Int} (j:0<=n) (t:n<18446744073709551616):wr .u64 n=n:=by simp only[wr,dj];omega
theorem Zce{α:Type} {f:α->Bool} {l:List α} {k:Nat} {x:α} (h:l[k]? =ah x):(l.take (k+1)).all f=((l.take k).all f&&f x):=by
  obtain⟨j,rfl⟩:=ar.1 h;rw[dV j,List.all_append,kx,List.all_nil,bZ]
theorem Zfj{α:Type} {f:α->Bool} {l:List α} {k:Nat} {x:α} (h:l[k]? =ah x) (j:f x=ae):l.all f=false:=by
  rw[jN];intro t;have:=(ik.1 t) x (cp h);rw[j] at this;cases this
--@cond bmul | 65 | F3 | 400 | (x y : Int) | [.int ae .u64 x, .int ae .u64 y] | (p q : Int) | .tup [.int ae .u64 p, .int ae .u64 q]
theorem Zye(x y:Int) (p q:Int):Zk E F3 (vc E F3 400) 65 [.int ae .u64 x,.int ae .u64 y] hp0 0 (λr=>ret E (patch hp0 0 r) r.v (.tup [.int ae .u64 p,.int ae .u64 q]))=(
  wr aA
        (wr aA
            (wr aA
                (aB x (2^min (ag 32) (ak aA))*
                  aB y (2^min (ag 32) (ak aA)))+
              aB
                (wr aA
                  (wr aA
                      (aB x (2^min (ag 32) (ak aA))*
                        Zo dh aA y 4294967295)+
                    aB
                      (wr aA
                        (Zo dh aA x 4294967295*Zo dh aA y 4294967295))
                      (2^min (ag 32) (ak aA))))
                (2^min (ag 32) (ak aA)))+
          aB
            (wr aA
              (Zo dh aA
                  (wr aA
                    (wr aA
                        (aB x (2^min (ag 32) (ak aA))*
                          Zo dh aA y 4294967295)+
                      aB
                        (wr aA
                          (Zo dh aA x 4294967295*Zo dh aA y 4294967295))
                        (2^min (ag 32) (ak aA))))
                  4294967295+
                wr aA
                  (Zo dh aA x 4294967295*
                    aB y (2^min (ag 32) (ak aA)))))
            (2^min (ag 32) (ak aA)))=
      p/\
    wr aA (x*y)=q/\True
  ):=by kernel_rfl
--@end
--@cond contains | 37 | F3 | 400 | (c : List Ins) | [.psl .ins c ae, .fn (.func 38) [] []] | (b : Bool) | .bool ae b
theorem Ziw(c:List Ins) (b:Bool):Zk E F3 (vc E F3 400) 37 [.psl .ins c ae,.fn (.func 38) [] []] hp0 0 (λr=>ret E (patch hp0 0 r) r.v (.bool ae b))=(
  ∃(R:LX->Prop),
    (∃(x:LX),
        R x/\
          af=af/\
            ((c=c/\(ae=af->ae=af))/\
                (Fn.func 38=Fn.func 38/\True/\True)/\
                  (↑(ab c):Int)=(↑(ab c):Int)/\0=(↑(fE x):Int)/\True)/\
              True)/\
      ∀(x:LX),
        R x->
          (decide ((↑(fE x):Int)<(↑(ab c):Int))=af->
              0<=(↑(fE x):Int)/\
                (↑(fE x):Int)+1<=(↑(ab c):Int)/\
                  ∀(t:Ins),
                    c[ag (↑(fE x):Int)]? =ah t->
                      True/\
                        ((!formedF t)=af->
                            (decide ((↑(fE x):Int)>=0)=af->af=b)/\
                              (decide ((↑(fE x):Int)>=0)=ae->ae=b))/\
                          ((!formedF t)=ae->
                            ∃(j:LX),
                              R j/\
                                j.2+1<=x.2/\
                                  af=af/\
                                    ((c=c/\(ae=af->ae=af))/\
                                        (Fn.func 38=Fn.func 38/\True/\True)/\
                                          (↑(ab c):Int)=(↑(ab c):Int)/\
                                            wr ac ((↑(fE x):Int)+1)=(↑(fE j):Int)/\True)/\
                                      True))/\
            (decide ((↑(fE x):Int)<(↑(ab c):Int))=ae->ae=b)
  ):=by kernel_rfl
--@end
theorem Zyf(y:Int) (j:0<=y) (h1:y<4294967296):PureC E 65 [.int ae .u64 1,.int ae .u64 y] (.tup [.int ae .u64 0,.int ae .u64 y]):=by
  refine Za E_ok (Zb E_ok Z8e 400) ?_;rw[Zye];have t:aB y (2^min (ag 32) (ak aA))=0:=by
    show y.fdiv 4294967296=0;rw[Int.fdiv_eq_ediv_of_nonneg _ (by omega)];omega
  have I:aB 1 (2^min (ag 32) (ak aA))=0:=by decide
  have J:Zo .and .u64 1 4294967295=1:=Ziv (by omega) (by omega);have R:=Ziv j h1;have U:aB 0 (2^min (ag 32) (ak aA))=0:=by decide
  have e6:wr .u64 0=0:=by decide
  have e7:wr .u64 y=y:=Z4x j (by omega);have e8:Zo .and .u64 0 4294967295=0:=Ziv (by omega) (by omega);simp only[t,I,J,R,U,e6,e7,e8,Int.zero_mul,Int.one_mul,Int.mul_zero,Int.zero_add,Int.add_zero,and_self]
theorem Zix(c:List Ins) (U:c.length<=4096):PureC E 37 [.psl .ins c ae,.fn (.func 38) [] []] (.bool ae (!c.all formedF)):=by
  refine Za E_ok (Zb E_ok Z8e 400) ?_;rw[Ziw];refine⟨λx=>x.k+x.r=c.length/\(c.take x.k).all formedF=af,⟨⟨0,c.length,[],0⟩,by simp,by simp⟩,λx J=> ?_⟩;obtain⟨R,t⟩:=J
  simp only[Zz,Zs,Ys,Yt,Yu,gF,gM,fV,fX,fw,fk,bw,bD,bh,bJ,az,bZ,cm,aX,ib,Zx,Z4,ne_eq,and_true,true_and,bu,bc,false_or,or_false,jn,bi,il,iF,bV];refine⟨λa1=>⟨by omega,by omega,λy j=>⟨λI=>⟨λ_=> ?_,λh=>by omega⟩,λI=> ?_⟩⟩,λa0=> ?_⟩
  ·rw[bB] at j
   rw[Zfj j I];rfl
  ·rw[bB] at j
   refine⟨⟨x.k+1,x.r-1,[],0⟩,⟨by show x.k+1+(x.r-1)=_;omega,by show(c.take (x.k+1)).all formedF=af;rw[Zce j,t,I];rfl⟩,by show x.r-1+1<=x.r;omega,?_⟩;rw[wr64 (by omega) (by omega)];simp
  ·rw[aN (by omega)] at t
   rw[t];rfl
end
section
open Go
noncomputable def dFn(f:Nat):Dc E Unit where
 dec v:=match v with| .fn (.func g) [] []=>(match Nat.beq g f with|true=>ah ()|false=>aD)|_=>aD
 enc _:= .fn (.func f) [] []
 ok v a h:=by
  split at h
  ·split at h
   ·rename_i e
    rw[Nat.eq_of_beq_eq_true e]
    exact⟨rfl,rfl,λσ g u j=>j⟩
   ·cases h
  ·cases h
noncomputable def Zu2:Sum thy:=sumP (dL2 Z26 (dFn 38)) (λx=>x.1.length<=4096) λx=> .bool ae (!x.1.all formedF)
noncomputable def Ybs:Sum thy:=sumP (dL2 (dInt .u64) (dInt .u64)) (λx=>x.1=1/\0<=x.2.1/\x.2.1<4294967296) λx=> .tup [.int ae .u64 0,.int ae .u64 x.2.1]
noncomputable def F4:Fns thy:=addS (addS F3 37 Zu2) 65 Ybs
theorem Z5m:FnsOk E F4:=by
 refine Zc (Zc Z8e ?_) ?_
 ·exact Yc E_ok (Ze (f:=37) rfl) λx h=>Zix x.1 h
 ·refine Yc E_ok (Ze (f:=65) rfl) λx h=> ?_
  obtain⟨x,y,u⟩:=x;obtain⟨rfl,j,t⟩:=h;exact Zyf y j t
abbrev qBD7(j:List Ins):=(↑(ab j):Int)
abbrev qBDt(j:List Ins):=(wr aA (qBD7 j))
abbrev qBD1(j:List Ins):=(wr ac (qBDt j))
abbrev qBD2(t:Int) (j:Ins):=(wr ac (t-ay (eff (bG j)))+aJ (eff (bG j)))
abbrev qBD9:=(0:Nat)
abbrev qBDc:=(0:Int)
abbrev qBDn:=(1:Int)
abbrev qBDr(j:List Ins):=(ag (qBD1 j))
abbrev qBDe(j:List Ins):=(↑(qBDr j):Int)
abbrev qBDq(j:Int) (t:List Ins):=(qBDc<=j/\j+qBDn<=(qBDe t))
abbrev qBD5(j:LX):=(↑(fE j):Int)
abbrev qBDm:=(1:Nat)
abbrev qBD3(j:Int) (t:LX) (I:Bool->Prop) (J:List Ins) (R:LX) (f0:Int) (U:Ins):=((decide (j<=(qBD5 t))=af->I af)/\(decide (j<=(qBD5 t))=ae->(decide (j>=(qBD7 J))=af->I af)/\(decide (j>=(qBD7 J))=ae->(qBDq j J)/\qBD9+ag j+qBDm<=ab (dG R)/\∀(t:Int),(dG R)[qBD9+ag j]? =ah t->(decide (t>=qBDc)=af->(qBDq j J)/\qBD9+ag j+qBDm<=ab (dG R)/\∀(t:Int),(dG R)[qBD9+ag j]? =ah t->((t !=wr ac (qBD2 f0 U))=af->I af)/\((t !=wr ac (qBD2 f0 U))=ae->I ae))/\(decide (t>=qBDc)=ae->I ae))))
abbrev qBD4(j:List Ins):=(qBD9=qBD9/\ag (qBD1 j)=ag (qBD1 j)/\ag (qBD1 j)=ag (qBD1 j))
abbrev qBD6(j:List Ins):=(j=j/\(ae=af->ae=af))
abbrev qBD8(j:LX):=((qBD5 j)+qBDn)
abbrev qBDj(j:LX) (t:Int):=(mm2 af (gX j) t)
abbrev qBDd(j:Int) (t:Ins):=(wr ac (qBD2 j t))
abbrev qBDa(j:List Ins) (t:LX) (I:Int) (R:Ins) (J:LX):=((qBD6 j)/\mm2 af (qBDj t I) (qBDd I R)=gX J/\(qBD4 j)/\(qBD6 j)/\(qBD7 j)=(qBD7 j)/\wr ac (qBD8 t)=(qBD5 J)/\True)
abbrev qBDb(j:Ins) (t:LX):=(↑(ab [cd j]+ab [wr ac (qBD8 t)]):Int)
abbrev qBDf(j:LX):=(↑(ab [wr ac (qBD8 j)]):Int)
abbrev qBDg(j:Ins) (t:Bool->Prop):=(((bG j !=(14:Int))=af->((bG j !=(15:Int))=af->((bG j !=(16:Int))=af->t af)/\((bG j !=(16:Int))=ae->t ae))/\((bG j !=(15:Int))=ae->t ae))/\((bG j !=(14:Int))=ae->t ae))
abbrev qBDh(j:Ins):=(ab [cd j])
abbrev qBDi(j:LX) (t:LX):=(dG j=dG t/\qBD9=qBD9)
abbrev qBDk(j:Ins) (t:LX):=(qBD9=qBD9/\ab [cd j]+ab [wr ac (qBD8 t)]=ab [cd j]+ab [wr ac (qBD8 t)]/\True)
abbrev qBDl(j:Ins) (t:LX):=(aj (qBDh j) [cd j]++ [wr ac (qBD8 t)]=aj (qBDh j) [cd j]++ [wr ac (qBD8 t)]/\qBD9=qBD9)
abbrev qBDo(j:LX):=(qBD9=qBD9/\ab [wr ac (qBD8 j)]=ab [wr ac (qBD8 j)]/\True)
abbrev qBDp(j:List Ins) (t:LX):=(ag (qBD1 j)-ag (qBD5 t))
abbrev qBDs(j:LX):=(aj (ag (qBD5 j)) (dG j))
abbrev qBDu(j:Ins):=(qBD9=qBD9/\ab [cd j]=ab [cd j]/\True)
abbrev qBDv(j:LX):=([wr ac (qBD8 j)]= [wr ac (qBD8 j)]/\qBD9=qBD9)
theorem Zmp(c:List Ins) (p q:Int):Zk E F4 (vc E F4 400) 20 [.psl .ins c ae] hp0 0 (λr=>ret E (patch hp0 0 r) r.v (.tup [.int ae .i64 p,.int ae .i64 q]))=(
 (decide ((qBD7 c)>4096)=af->qBDc=p/\2=q/\True)/\(decide ((qBD7 c)>4096)=ae->(((qBD7 c)==qBDc)=af->qBDc=p/\200=q/\True)/\(((qBD7 c)==qBDc)=ae->ab c<=4096/\((!kZ c formedF)=af->qBDc=p/\200=q/\True)/\((!kZ c formedF)=ae->(decide ((qBD7 c)<qBDc)=af->False)/\(decide ((qBD7 c)<qBDc)=ae->(qBDn=qBDn/\qBDc<=wr aA (qBD7 c)/\wr aA (qBD7 c)+qBDn<=4294967296)/\∃(Q:Bool->Prop),((decide (qBDc>qBDc)=af->Q af)/\(decide (qBDc>qBDc)=ae->(decide (wr aA (qBD7 c)>9223372036854775807)=af->Q af)/\(decide (wr aA (qBD7 c)>9223372036854775807)=ae->Q ae)))/\(Q af->False)/\(Q ae->qBDc<=wr ac (qBDt c)/\wr ac (qBDt c)<=wr ac (qBDt c)/\(↑(8:Nat):Int)*wr ac (qBDt c)<=281474976710656/\(qBD9<=qBD9/\qBD9+ag (qBD1 c)<=ab (aS (qBDr c) qBDc))/\∃(R:LX->Prop),(∃(x:LX),R x/\af=af/\((qBD4 c)/\(↑(min (ab [(-1:Int)]) (qBDr c)):Int)=(qBD5 x)/\True)/\(aj qBD9 (aS (qBDr c) qBDc)++aj (qBDr c) [(-1:Int)]++aV (qBD9+min (ab [(-1:Int)]) (qBDr c)) (aS (qBDr c) qBDc)=dG x/\qBD9=qBD9)/\True)/\∀(x:LX),R x->(decide ((qBD5 x)<(qBDe c))=af->(qBDc<=(qBD5 x)/\(qBD5 x)<=(qBDe c))/\(decide ((qBD5 x)<(qBDe c))=af->(qBDc<=(qBD5 x)/\(qBD5 x)<=(qBDe c))/\qBD9+ag (qBD5 x)<=ab (dG x)/\(qBD9<=qBD9+ag (qBD5 x)/\qBD9+ag (qBD5 x)+(qBDp c x)<=ab (dG x))/\∃(J:LX),R J/\J.2+qBDm<=x.2/\af=af/\((qBD4 c)/\wr ac ((qBD5 x)+(↑(min (ab (qBDs x)) (qBDp c x)):Int))=(qBD5 J)/\True)/\(aj (qBD9+ag (qBD5 x)) (dG x)++aj (qBDp c x) (qBDs x)++aV (qBD9+ag (qBD5 x)+min (ab (qBDs x)) (qBDp c x)) (dG x)=dG J/\qBD9=qBD9)/\True)/\(decide ((qBD5 x)<(qBDe c))=ae->(qBDc<=(qBD5 x)/\(qBD5 x)<=(qBDe c))/\False))/\(decide ((qBD5 x)<(qBDe c))=ae->(qBDc<=qBDc/\qBDc+qBDn<=(qBDe c))/\qBD9<=qBD9+ag qBDc/\qBD9+ag qBDc+qBDm<=ab (dG x)/\∀(a2:Int),(dG x)[qBD9+ag qBDc]? =ah a2->∃(R:LX->Prop),(∃(j:LX),R j/\af=af/\((qBD6 c)/\qBDc=gX j/\(qBD4 c)/\(qBD6 c)/\(qBD7 c)=(qBD7 c)/\qBDc=(qBD5 j)/\True)/\(eG (dG x) (qBD9+ag qBDc) qBDc=dG j/\qBD9=qBD9)/\True)/\∀(x:LX),R x->(decide ((qBD5 x)<(qBD7 c))=af->qBDc<=(qBD5 x)/\(qBD5 x)+qBDn<=(qBD7 c)/\∀(j:Ins),c[ag (qBD5 x)]? =ah j->(qBDc<=(qBD5 x)/\(qBD5 x)+qBDn<=(qBDe c))/\qBD9+ag (qBD5 x)+qBDm<=ab (dG x)/\∀(I:Int),(dG x)[qBD9+ag (qBD5 x)]? =ah I->(decide (I<qBDc)=af->∃(J:LX),R J/\J.2+qBDm<=x.2/\af=af/\((qBD6 c)/\gX x=gX J/\(qBD4 c)/\(qBD6 c)/\(qBD7 c)=(qBD7 c)/\wr ac (qBD8 x)=(qBD5 J)/\True)/\(qBDi x J)/\True)/\(decide (I<qBDc)=ae->True/\∃(Q:Bool->Prop),((decide (I<ay (eff (bG j)))=af->Q af)/\(decide (I<ay (eff (bG j)))=ae->((bG j==15)=af->((I !=qBDn)=af->Q af)/\((I !=qBDn)=ae->((bG j==16)=af->((I !=qBDc)=af->Q af)/\((I !=qBDc)=ae->Q ae))/\((bG j==16)=ae->Q ae)))/\((bG j==15)=ae->((bG j==16)=af->((I !=qBDc)=af->Q af)/\((I !=qBDc)=ae->Q ae))/\((bG j==16)=ae->Q ae))))/\(Q af->qBDc=p/\200=q/\True)/\(Q ae->∃(Q:Bool->Prop),(((bG j==13)=af->Q af)/\
((bG j==13)=ae->((bG j==14)=af->Q af)/\((bG j==14)=ae->Q ae)))/\(Q af->∃(Q:Bool->Prop),(qBDg j Q)/\(Q af->(ab [cd j]<=ab [cd j]/\qBD9<=ab [cd j]/\(ab [cd j]+ab [wr ac (qBD8 x)])*8<=140737488355328)/\∃(a0:LX->Prop),(∃(t:LX),a0 t/\af=af/\((qBD6 c)/\mm2 af (qBDj x I) (qBDd I j)=mm2 af (qBDj x I) (qBDd I j)/\(qBD4 c)/\(qBD5 x)=(qBD5 x)/\wr ac (qBD2 I j)=wr ac (qBD2 I j)/\(qBD6 c)/\(qBD7 c)=(qBD7 c)/\(qBD5 x)=(qBD5 x)/\(qBDk j x)/\(qBDb j x)=(qBDb j x)/\qBDc=(qBD5 t)/\True)/\(qBDi x t)/\(qBDl j x)/\True)/\∀(t:LX),a0 t->(decide ((qBD5 t)<(qBDb j x))=af->(qBDc<=(qBD5 t)/\(qBD5 t)+qBDn<=(qBDb j x))/\qBD9+ag (qBD5 t)+qBDm<=ab (aj (qBDh j) [cd j]++ [wr ac (qBD8 x)])/\∀(U:Int),(aj (qBDh j) [cd j]++ [wr ac (qBD8 x)])[qBD9+ag (qBD5 t)]? =ah U->∃(Q:Bool->Prop),(qBD3 U x Q c t I j)/\(Q af->qBDc=p/\200=q/\True)/\(Q ae->(qBDq U c)/\qBD9<=qBD9+ag U/\qBD9+ag U+qBDm<=ab (dG t)/\∀(a1:Int),(dG t)[qBD9+ag U]? =ah a1->∃(J:LX),a0 J/\J.2+qBDm<=t.2/\af=af/\((qBD6 c)/\mm2 af (qBDj x I) (qBDd I j)=mm2 af (qBDj x I) (qBDd I j)/\(qBD4 c)/\(qBD5 x)=(qBD5 x)/\wr ac (qBD2 I j)=wr ac (qBD2 I j)/\(qBD6 c)/\(qBD7 c)=(qBD7 c)/\(qBD5 x)=(qBD5 x)/\(qBDk j x)/\(qBDb j x)=(qBDb j x)/\wr ac (qBD8 t)=(qBD5 J)/\True)/\(eG (dG t) (qBD9+ag U) (qBDd I j)=dG J/\qBD9=qBD9)/\(qBDl j x)/\True))/\(decide ((qBD5 t)<(qBDb j x))=ae->∃(J:LX),R J/\J.2+qBDm<=x.2/\af=af/\(qBDa c x I j J)/\(qBDi t J)/\True))/\(Q ae->∃(a0:LX->Prop),(∃(t:LX),a0 t/\af=af/\((qBD6 c)/\mm2 af (qBDj x I) (qBDd I j)=mm2 af (qBDj x I) (qBDd I j)/\(qBD4 c)/\(qBD5 x)=(qBD5 x)/\wr ac (qBD2 I j)=wr ac (qBD2 I j)/\(qBD6 c)/\(qBD7 c)=(qBD7 c)/\(qBD5 x)=(qBD5 x)/\(qBDu j)/\(↑(qBDh j):Int)=(↑(qBDh j):Int)/\qBDc=(qBD5 t)/\True)/\(qBDi x t)/\([cd j]= [cd j]/\qBD9=qBD9)/\True)/\∀(t:LX),a0 t->(decide ((qBD5 t)<(↑(qBDh j):Int))=af->(qBDc<=(qBD5 t)/\(qBD5 t)+qBDn<=(↑(qBDh j):Int))/\qBD9+ag (qBD5 t)+qBDm<=ab [cd j]/\∀(U:Int),[cd j][qBD9+ag (qBD5 t)]? =ah U->∃(Q:Bool->Prop),(qBD3 U x Q c t I j)/\(Q af->qBDc=p/\200=q/\True)/\(Q ae->(qBDq U c)/\qBD9<=qBD9+ag U/\qBD9+ag U+qBDm<=ab (dG t)/\∀(a1:Int),(dG t)[qBD9+ag U]? =ah a1->∃(J:LX),a0 J/\J.2+qBDm<=t.2/\af=af/\((qBD6 c)/\mm2 af (qBDj x I) (qBDd I j)=mm2 af (qBDj x I) (qBDd I j)/\(qBD4 c)/\(qBD5 x)=(qBD5 x)/\wr ac (qBD2 I j)=wr ac (qBD2 I j)/\(qBD6 c)/\(qBD7 c)=(qBD7 c)/\(qBD5 x)=(qBD5 x)/\(qBDu j)/\(↑(qBDh j):Int)=(↑(qBDh j):Int)/\wr ac (qBD8 t)=(qBD5 J)/\True)/\(eG (dG t) (qBD9+ag U) (qBDd I j)=dG J/\qBD9=qBD9)/\([cd j]= [cd j]/\qBD9=qBD9)/\True))/\(decide ((qBD5 t)<(↑(qBDh j):Int))=ae->∃(J:LX),R J/\J.2+qBDm<=x.2/\af=af/\(qBDa c x I j J)/\(qBDi t J)/\True)))/\(Q ae->∃(Q:Bool->Prop),(qBDg j Q)/\(Q af->∃(a0:LX->Prop),(∃(t:LX),a0 t/\af=af/\((qBD6 c)/\mm2 af (qBDj x I) (qBDd I j)=mm2 af (qBDj x I) (qBDd I j)
/\(qBD4 c)/\(qBD5 x)=(qBD5 x)/\wr ac (qBD2 I j)=wr ac (qBD2 I j)/\(qBD6 c)/\(qBD7 c)=(qBD7 c)/\(qBD5 x)=(qBD5 x)/\(qBDo x)/\(qBDf x)=(qBDf x)/\qBDc=(qBD5 t)/\True)/\(qBDi x t)/\(qBDv x)/\True)/\∀(t:LX),a0 t->(decide ((qBD5 t)<(qBDf x))=af->(qBDc<=(qBD5 t)/\(qBD5 t)+qBDn<=(qBDf x))/\qBD9+ag (qBD5 t)+qBDm<=ab [wr ac (qBD8 x)]/\∀(U:Int),[wr ac (qBD8 x)][qBD9+ag (qBD5 t)]? =ah U->∃(Q:Bool->Prop),(qBD3 U x Q c t I j)/\(Q af->qBDc=p/\200=q/\True)/\(Q ae->(qBDq U c)/\qBD9<=qBD9+ag U/\qBD9+ag U+qBDm<=ab (dG t)/\∀(a1:Int),(dG t)[qBD9+ag U]? =ah a1->∃(J:LX),a0 J/\J.2+qBDm<=t.2/\af=af/\((qBD6 c)/\mm2 af (qBDj x I) (qBDd I j)=mm2 af (qBDj x I) (qBDd I j)/\(qBD4 c)/\(qBD5 x)=(qBD5 x)/\wr ac (qBD2 I j)=wr ac (qBD2 I j)/\(qBD6 c)/\(qBD7 c)=(qBD7 c)/\(qBD5 x)=(qBD5 x)/\(qBDo x)/\(qBDf x)=(qBDf x)/\wr ac (qBD8 t)=(qBD5 J)/\True)/\(eG (dG t) (qBD9+ag U) (qBDd I j)=dG J/\qBD9=qBD9)/\(qBDv x)/\True))/\(decide ((qBD5 t)<(qBDf x))=ae->∃(J:LX),R J/\J.2+qBDm<=x.2/\af=af/\(qBDa c x I j J)/\(qBDi t J)/\True))/\(Q ae->∃(a0:LX->Prop),(∃(t:LX),a0 t/\af=af/\((qBD6 c)/\mm2 af (qBDj x I) (qBDd I j)=mm2 af (qBDj x I) (qBDd I j)/\(qBD4 c)/\(qBD5 x)=(qBD5 x)/\wr ac (qBD2 I j)=wr ac (qBD2 I j)/\(qBD6 c)/\(qBD7 c)=(qBD7 c)/\(qBD5 x)=(qBD5 x)/\bI aD qBD9 qBD9=bI aD qBD9 qBD9/\qBDc=qBDc/\qBDc=(qBD5 t)/\True)/\(qBDi x t)/\True)/\∀(t:LX),a0 t->(decide ((qBD5 t)<qBDc)=af->False)/\(decide ((qBD5 t)<qBDc)=ae->∃(J:LX),R J/\J.2+qBDm<=x.2/\af=af/\(qBDa c x I j J)/\(qBDi t J)/\True))))))/\(decide ((qBD5 x)<(qBD7 c))=ae->(decide (gX x>64)=af->qBDc=p/\2=q/\True)/\(decide (gX x>64)=ae->gX x=p/\qBDc=q/\True))))))))):=by kernel_rfl
end
section
open Go
theorem Z1e{n k:Nat} (J:1<=k) (R:k<n) {D:List Int} (I:D=aS k (-1)++aS (n-k) 0):
 aj k D++aj (n-k) (aj k D)++aV (k+min (aj k D).length (n-k)) D=aS (k+min k (n-k)) (-1)++aS (n-(k+min k (n-k))) 0:=by
 subst I
 have j:aj k (aS k (-1:Int)++aS (n-k) 0)=aS k (-1):=List.take_left' (by simp)
 rw[j,jk,List.take_replicate]
 have t:aV (k+min k (n-k)) (aS k (-1:Int)++aS (n-k) 0)=aV (min k (n-k)) (aS (n-k) 0):=by
  rw[List.drop_append,jk,dK (by simp),show k+min k (n-k)-k=min k (n-k) by omega,eD]
 rw[t,List.drop_replicate,List.replicate_append_replicate,Nat.min_comm (n-k) k,show n-k-min k (n-k)=n-(k+min k (n-k)) by omega]
structure RV(c:List Ins) (x:LX):Prop where
 kr:x.k+x.r=c.length
 len:x.D.length=c.length
 lo:∀d∈x.D,-1<=d/\d<=x.k
 run:fromF c.length (c.drop x.k) x.k x.D x.m=fromF c.length c 0 (deps c) 0
structure RN(c:List Ins) (x:LX) (after:Int) (ns:List Int) (y:LX):Prop where
 kr:y.k+y.r=ns.length
 len:y.D.length=c.length
 lo:∀d∈y.D,-1<=d/\d<=x.k+1
 run:setF c.length x.k after (ns.drop y.k) y.D=setF c.length x.k after ns x.D
theorem Z4h(op:Int):0<=(eff op).1/\(eff op).1<=2/\0<=(eff op).2/\(eff op).2<=1:=by
 unfold eff
 repeat' split
 all_goals simp
theorem Zab{D:List Int} {j:Nat} {a lo hi:Int} (h:∀d∈D,lo<=d/\d<=hi) (I:lo<=a/\a<=hi):∀d∈D.set j a,lo<=d/\d<=hi:=by
 intro d J;rcases iQ J with t|t
 ·exact h d t
 ·subst t;exact I
theorem Zev(c:List Ins):PureC E 20 [.psl .ins c ae] (.tup [.int ae .i64 (verF c).1,.int ae .i64 (verF c).2]):=by
 refine Za E_ok (Zb E_ok Z5m 400) ?_;rw[Zmp]; delta qBD7 qBDc qBDn qBDt qBD9 qBD1 qBDr qBD4 qBD5 qBDe qBDp qBDm qBDs qBD6 qBD8 qBDi qBDg qBDj qBDd qBD2 qBDk qBDb qBDl qBDh qBD3 qBDq qBDa qBDu qBDo qBDf qBDv;have s1:4096<c.length->verF c=(0,2):=λh=>by unfold verF;rw[jh h]
 have s2:c.length=0->verF c=(0,200):=λh=>by unfold verF;rw[jb (by omega),jh (.inl h)]
 have s3:c.length<=4096->c.all formedF=ae->verF c=(0,200):=λh h2=>by unfold verF;rw[jb (by omega),jh (.inr h2)]
 have s4:c.length<=4096->c.length≠0->c.all formedF=af->verF c=endF (fromF c.length c 0 (deps c) 0):=λh h2 h3=>by unfold verF;rw[jb (by omega),jb (by simp[h2,h3])]
 generalize verF c=V at*;simp only[Zz,Zs,Ys,Yt,Yu,gF,gM,fV,fX,fw,fk,bw,bD,bh,bJ,az,bZ,cm,aX,ib,Zx,Z4,ne_eq,and_true,true_and,bu,bc,false_or,or_false,jn,bi,il,iF,bV,jH,jI]
 refine⟨λh=> ?_,λh=>⟨λh2=> ?_,λh2=>⟨by omega,λh3=> ?_,λh3=>⟨λh4=>by omega,λh4=> ?_⟩⟩⟩⟩
 ·rw[s1 (by omega)];simp
 ·rw[s2 (by omega)];simp
 ·rw[s3 (by omega) (by simpa using h3)];simp
 have hn:c.length<=4096:=by omega
 rw[s4 hn (by omega) h3];clear s1 s2 s3 s4 V h4 h;have eU:wr .u64 (c.length:Int)=c.length:=Z4x (by omega) (by omega);have eI:wr .i64 (c.length:Int)=c.length:=wr64 (by omega) (by omega);simp only[eU,eI,bB,bX,Int.toNat_zero];refine⟨by omega,?_⟩;refine⟨λb=>b=ae,⟨λh=>by omega,λ_=>⟨λh=>by omega,λ_=>rfl⟩⟩,λh=>by simp at h,λ_=> ?_⟩;refine⟨by omega,eu _,by omega,by simp,?_⟩
 refine⟨λx=>1<=x.k/\x.k+x.r=c.length/\x.D=aS x.k (-1)++aS (c.length-x.k) 0,⟨⟨1,c.length-1,aS 1 (-1)++aS (c.length-1) 0,0⟩,⟨aE _,by show 1+(c.length-1)=_;omega,rfl⟩,?_⟩,λx hx=> ?_⟩
 ·have e:min ([-1]:List Int).length c.length=1:=by simp;omega
  rw[e];refine⟨by simp,?_⟩;have e2:aj c.length [(-1:Int)]= [-1]:=aN (by simp;omega);rw[e2];simp
 obtain⟨b5,b7,hD⟩:=hx;have c1:x.D.length=c.length:=by rw[hD];simp;omega
 refine⟨λb0=>⟨by omega,λ_=>⟨by omega,by omega,by omega,?_⟩,λh=>jv b0 h⟩,λa9=> ?_⟩
 ·have e:=Z1e b5 (by omega:x.k<c.length) hD
  have e3:(aj x.k x.D).length=x.k:=by rw[aW];omega
  rw[e3] at e⊢;refine⟨⟨x.k+min x.k (c.length-x.k),c.length-(x.k+min x.k (c.length-x.k)),_,0⟩,⟨by show 1<=x.k+_;omega,by show x.k+min x.k (c.length-x.k)+(c.length-(x.k+min x.k (c.length-x.k)))=_;omega,rfl⟩,by show c.length-(x.k+min x.k (c.length-x.k))+1<=x.r;omega,?_,e⟩;rw[wr64 (by omega) (by omega)];show _=((x.k+min x.k (c.length-x.k):Nat):Int);omega
 have b6:x.k=c.length:=by omega
 have hD:x.D=aS c.length (-1):=by rw[hD,b6,Nat.sub_self];simp
 clear b5 b7 a9;refine⟨by omega,by omega,by omega,λz hz=> ?_⟩;rw[hD] at c1⊢;clear hz hD b6;refine⟨RV c,⟨⟨0,c.length,deps c,0⟩,⟨by show 0+c.length=_;omega,by simp[deps],?_,by simp⟩,by simp[deps]⟩,λx U=> ?_⟩
 ·intro d hd
  rcases iQ hd with h|h
  ·rw[List.mem_replicate] at h;show-1<=d/\d<=0;omega
  ·show-1<=d/\d<=0;omega
 have b8:=U.len;refine⟨λb0=>⟨by omega,by omega,λj b9=>⟨by omega,by omega,λx3 c0=> ?_⟩⟩,λa9=> ?_⟩
 ·have hb:=U.lo x3 (cp c0)
  have he:=Z4h j.op;have b7:=U.kr;have a3:x.D.getD x.k 0=x3:=by simp[aI,c0]
  have c2:c.drop x.k=j::c.drop (x.k+1):=by
   obtain⟨h1,rfl⟩:=ar.1 b9;exact cA h1
  have R:=U.run;rw[c2] at R;simp only[fromF] at R;have c3:formedF j=true:=ik.1 h3 j (cp b9);have eK:wr .i64 ((x.k:Int)+1)=x.k+1:=wr64 (by omega) (by omega);have eA:wr .i64 (wr .i64 (x3-(eff j.op).1)+(eff j.op).2)=x3-(eff j.op).1+(eff j.op).2:=by
   have e0:wr .i64 (x3-(eff j.op).1)=x3-(eff j.op).1:=wr64 (by omega) (by omega);rw[e0];exact wr64 (by omega) (by omega)
  simp only[eK,eA,Zx];refine⟨λa1=> ?_,λa1=> ?_⟩
  ·have a4:rndF c.length x.k j x.D x.m=ah (x.D,x.m):=by unfold rndF;rw[a3,jh a1]
   rw[a4] at R;exact⟨⟨x.k+1,x.r-1,x.D,x.m⟩,⟨by show x.k+1+(x.r-1)=_;omega,b8,λd hd=>by have:=U.lo d hd;show-1<=d/\d<=((x.k+1:Nat):Int);omega,R⟩,by show x.r-1+1<=x.r;omega,by simp⟩
  refine⟨λb=>(b=af↔(x3<(eff j.op).1\/(j.op=15/\x3≠1)\/(j.op=16/\x3≠0))),?_,λt=> ?_,λt=> ?_⟩
  ·repeat' (first|(refine aK ?_ ?_)|(intro h))
   all_goals simp
   all_goals omega
  ·have t:=t.1 rfl
   have a8:rndF c.length x.k j x.D x.m=none:=by unfold rndF;rw[a3,jb a1,jh t]
   rw[a8] at R;rw[<-R];simp[endF]
  ·have a7:¬(x3<(eff j.op).1\/(j.op=15/\x3≠1)\/(j.op=16/\x3≠0)):=λh=>jv (t.2 h) (by simp)
   clear t;refine⟨λb=>(b=af↔(j.op=13\/j.op=14)),?_,λt=> ?_,λt=> ?_⟩
   ·repeat' (first|(refine aK ?_ ?_)|(intro h))
    all_goals simp
    all_goals omega
   ·have t:=t.1 rfl
    refine⟨λb=>(b=af↔(j.op≠14/\j.op≠15/\j.op≠16)),?_,λa0=> ?_,λa0=> ?_⟩
    ·repeat' (first|(refine aK ?_ ?_)|(intro h))
     all_goals simp
     all_goals omega
    ·have a0:=a0.1 rfl
     have a2:nextF x.k j= [j.n,(x.k:Int)+1]:=by unfold nextF;rw[jb (by omega),jb (by omega),jh (by omega)]
     simp only[aT,bF,bX,jD,ko,fO,eD];refine⟨by omega,?_⟩;refine⟨RN c x (x3-(eff j.op).1+(eff j.op).2) [j.n,(x.k:Int)+1],⟨⟨0,2,x.D,0⟩,⟨rfl,U.len,λd hd=>⟨(U.lo d hd).1,by have:=(U.lo d hd).2;omega⟩,rfl⟩,by simp⟩,λy J=>⟨λb0=> ?_,λa9=> ?_⟩⟩
     ·have a5:y.k<([j.n,(x.k:Int)+1]).length:=by simp only[aT,bF];omega
      refine⟨by omega,by first|omega|(simp only[aT,bF];omega),λn b4=> ?_⟩;have b3:([j.n,(x.k:Int)+1]).drop y.k=n::([j.n,(x.k:Int)+1]).drop (y.k+1):=by
       obtain⟨h1,rfl⟩:=ar.1 b4;exact cA h1
      have I:=J.run;rw[b3] at I;generalize hS:setF c.length x.k (x3-(eff j.op).1+(eff j.op).2) [j.n,(x.k:Int)+1] x.D=SF at I;simp only[setF] at I;refine⟨λb=>(b=af↔(n<=x.k\/(c.length:Int)<=n\/(0<=y.D.getD n.toNat 0/\y.D.getD n.toNat 0≠x3-(eff j.op).1+(eff j.op).2))),?_,λt=> ?_,λt=> ?_⟩
      ·refine⟨λh=>by simp[h],λh=>⟨λh'=>by simp[h'],λh'=>⟨by omega,by rw[J.len];omega,λz hz=> ?_⟩⟩⟩
       have hg:y.D.getD n.toNat 0=z:=by simp[aI,hz]
       rw[hg];refine⟨λh0=>⟨by omega,by rw[J.len];omega,λz2 a6=> ?_⟩,λh0=>by simp;omega⟩;rw[hz] at a6;cases a6;exact⟨λh1=>by simp;omega,λh1=>by simp;omega⟩
      ·have t:=t.1 rfl
       rw[jh t] at I;have a8:rndF c.length x.k j x.D x.m=none:=by
        unfold rndF;rw[a3,jb a1,jb a7,a2,hS,<-I]
       rw[a8] at R;rw[<-R];simp[endF]
      ·have t:¬(n<=x.k\/(c.length:Int)<=n\/(0<=y.D.getD n.toNat 0/\y.D.getD n.toNat 0≠x3-(eff j.op).1+(eff j.op).2)):=λh=>by simp at t;exact jv h (by simpa using t)
       rw[jb t] at I;refine⟨by omega,bg _,by rw[J.len];omega,λz hz=> ?_⟩;refine⟨⟨y.k+1,y.r-1,y.D.set n.toNat (x3-(eff j.op).1+(eff j.op).2),0⟩,⟨by have:=J.kr;show y.k+1+(y.r-1)=_;omega,by simp[J.len],Zab J.lo (by omega),I.trans hS.symm⟩,by have:=J.kr;show y.r-1+1<=y.r;omega,?_⟩;rw[wr64 (by omega) (by omega)];simp
     ·have a5:([j.n,(x.k:Int)+1]).drop y.k= []:=dK (by simp only[aT,bF];omega)
      have I:=J.run;rw[a5] at I;generalize hS:setF c.length x.k (x3-(eff j.op).1+(eff j.op).2) [j.n,(x.k:Int)+1] x.D=SF at I;simp only[setF] at I;have a4:rndF c.length x.k j x.D x.m=ah (y.D,max (max x.m x3) (x3-(eff j.op).1+(eff j.op).2)):=by
       unfold rndF;rw[a3,jb a1,jb a7,a2,hS,<-I]
      rw[a4] at R;refine⟨⟨x.k+1,x.r-1,y.D,_⟩,⟨by have:=U.kr;show x.k+1+(x.r-1)=_;omega,J.len,λd hd=>by have:=J.lo d hd;show-1<=d/\d<=((x.k+1:Nat):Int);omega,R⟩,by have:=U.kr;show x.r-1+1<=x.r;omega,?_⟩;simp
    ·have a0:¬(j.op≠14/\j.op≠15/\j.op≠16):=λh=>jv (a0.2 h) (by simp)
     have a2:nextF x.k j= [j.n]:=by unfold nextF;rw[jb (by omega),jh (by omega)]
     simp only[aT,bF,bX];refine⟨RN c x (x3-(eff j.op).1+(eff j.op).2) [j.n],⟨⟨0,1,x.D,0⟩,⟨rfl,U.len,λd hd=>⟨(U.lo d hd).1,by have:=(U.lo d hd).2;omega⟩,rfl⟩,by simp⟩,λy J=>⟨λb0=> ?_,λa9=> ?_⟩⟩
     ·have a5:y.k<([j.n]).length:=by simp only[aT,bF];omega
      refine⟨by omega,by first|omega|(simp only[aT,bF];omega),λn b4=> ?_⟩;have b3:([j.n]).drop y.k=n::([j.n]).drop (y.k+1):=by
       obtain⟨h1,rfl⟩:=ar.1 b4;exact cA h1
      have I:=J.run;rw[b3] at I;generalize hS:setF c.length x.k (x3-(eff j.op).1+(eff j.op).2) [j.n] x.D=SF at I;simp only[setF] at I;refine⟨λb=>(b=af↔(n<=x.k\/(c.length:Int)<=n\/(0<=y.D.getD n.toNat 0/\y.D.getD n.toNat 0≠x3-(eff j.op).1+(eff j.op).2))),?_,λt=> ?_,λt=> ?_⟩
      ·refine⟨λh=>by simp[h],λh=>⟨λh'=>by simp[h'],λh'=>⟨by omega,by rw[J.len];omega,λz hz=> ?_⟩⟩⟩
       have hg:y.D.getD n.toNat 0=z:=by simp[aI,hz]
       rw[hg];refine⟨λh0=>⟨by omega,by rw[J.len];omega,λz2 a6=> ?_⟩,λh0=>by simp;omega⟩;rw[hz] at a6;cases a6;exact⟨λh1=>by simp;omega,λh1=>by simp;omega⟩
      ·have t:=t.1 rfl
       rw[jh t] at I;have a8:rndF c.length x.k j x.D x.m=none:=by
        unfold rndF;rw[a3,jb a1,jb a7,a2,hS,<-I]
       rw[a8] at R;rw[<-R];simp[endF]
      ·have t:¬(n<=x.k\/(c.length:Int)<=n\/(0<=y.D.getD n.toNat 0/\y.D.getD n.toNat 0≠x3-(eff j.op).1+(eff j.op).2)):=λh=>by simp at t;exact jv h (by simpa using t)
       rw[jb t] at I;refine⟨by omega,bg _,by rw[J.len];omega,λz hz=> ?_⟩;refine⟨⟨y.k+1,y.r-1,y.D.set n.toNat (x3-(eff j.op).1+(eff j.op).2),0⟩,⟨by have:=J.kr;show y.k+1+(y.r-1)=_;omega,by simp[J.len],Zab J.lo (by omega),I.trans hS.symm⟩,by have:=J.kr;show y.r-1+1<=y.r;omega,?_⟩;rw[wr64 (by omega) (by omega)];simp
     ·have a5:([j.n]).drop y.k= []:=dK (by simp only[aT,bF];omega)
      have I:=J.run;rw[a5] at I;generalize hS:setF c.length x.k (x3-(eff j.op).1+(eff j.op).2) [j.n] x.D=SF at I;simp only[setF] at I;have a4:rndF c.length x.k j x.D x.m=ah (y.D,max (max x.m x3) (x3-(eff j.op).1+(eff j.op).2)):=by
       unfold rndF;rw[a3,jb a1,jb a7,a2,hS,<-I]
      rw[a4] at R;refine⟨⟨x.k+1,x.r-1,y.D,_⟩,⟨by have:=U.kr;show x.k+1+(x.r-1)=_;omega,J.len,λd hd=>by have:=J.lo d hd;show-1<=d/\d<=((x.k+1:Nat):Int);omega,R⟩,by have:=U.kr;show x.r-1+1<=x.r;omega,?_⟩;simp
   ·have t:¬(j.op=13\/j.op=14):=λh=>jv (t.2 h) (by simp)
    refine⟨λb=>(b=af↔(j.op≠14/\j.op≠15/\j.op≠16)),?_,λa0=> ?_,λa0=> ?_⟩
    ·repeat' (first|(refine aK ?_ ?_)|(intro h))
     all_goals simp
     all_goals omega
    ·have a0:=a0.1 rfl
     have a2:nextF x.k j= [(x.k:Int)+1]:=by unfold nextF;rw[jb (by omega),jb (by omega),jb (by omega)]
     simp only[aT,bF,bX];refine⟨RN c x (x3-(eff j.op).1+(eff j.op).2) [(x.k:Int)+1],⟨⟨0,1,x.D,0⟩,⟨rfl,U.len,λd hd=>⟨(U.lo d hd).1,by have:=(U.lo d hd).2;omega⟩,rfl⟩,by simp⟩,λy J=>⟨λb0=> ?_,λa9=> ?_⟩⟩
     ·have a5:y.k<([(x.k:Int)+1]).length:=by simp only[aT,bF];omega
      refine⟨by omega,by first|omega|(simp only[aT,bF];omega),λn b4=> ?_⟩;have b3:([(x.k:Int)+1]).drop y.k=n::([(x.k:Int)+1]).drop (y.k+1):=by
       obtain⟨h1,rfl⟩:=ar.1 b4;exact cA h1
      have I:=J.run;rw[b3] at I;generalize hS:setF c.length x.k (x3-(eff j.op).1+(eff j.op).2) [(x.k:Int)+1] x.D=SF at I;simp only[setF] at I;refine⟨λb=>(b=af↔(n<=x.k\/(c.length:Int)<=n\/(0<=y.D.getD n.toNat 0/\y.D.getD n.toNat 0≠x3-(eff j.op).1+(eff j.op).2))),?_,λt=> ?_,λt=> ?_⟩
      ·refine⟨λh=>by simp[h],λh=>⟨λh'=>by simp[h'],λh'=>⟨by omega,by rw[J.len];omega,λz hz=> ?_⟩⟩⟩
       have hg:y.D.getD n.toNat 0=z:=by simp[aI,hz]
       rw[hg];refine⟨λh0=>⟨by omega,by rw[J.len];omega,λz2 a6=> ?_⟩,λh0=>by simp;omega⟩;rw[hz] at a6;cases a6;exact⟨λh1=>by simp;omega,λh1=>by simp;omega⟩
      ·have t:=t.1 rfl
       rw[jh t] at I;have a8:rndF c.length x.k j x.D x.m=none:=by
        unfold rndF;rw[a3,jb a1,jb a7,a2,hS,<-I]
       rw[a8] at R;rw[<-R];simp[endF]
      ·have t:¬(n<=x.k\/(c.length:Int)<=n\/(0<=y.D.getD n.toNat 0/\y.D.getD n.toNat 0≠x3-(eff j.op).1+(eff j.op).2)):=λh=>by simp at t;exact jv h (by simpa using t)
       rw[jb t] at I;refine⟨by omega,bg _,by rw[J.len];omega,λz hz=> ?_⟩;refine⟨⟨y.k+1,y.r-1,y.D.set n.toNat (x3-(eff j.op).1+(eff j.op).2),0⟩,⟨by have:=J.kr;show y.k+1+(y.r-1)=_;omega,by simp[J.len],Zab J.lo (by omega),I.trans hS.symm⟩,by have:=J.kr;show y.r-1+1<=y.r;omega,?_⟩;rw[wr64 (by omega) (by omega)];simp
     ·have a5:([(x.k:Int)+1]).drop y.k= []:=dK (by simp only[aT,bF];omega)
      have I:=J.run;rw[a5] at I;generalize hS:setF c.length x.k (x3-(eff j.op).1+(eff j.op).2) [(x.k:Int)+1] x.D=SF at I;simp only[setF] at I;have a4:rndF c.length x.k j x.D x.m=ah (y.D,max (max x.m x3) (x3-(eff j.op).1+(eff j.op).2)):=by
       unfold rndF;rw[a3,jb a1,jb a7,a2,hS,<-I]
      rw[a4] at R;refine⟨⟨x.k+1,x.r-1,y.D,_⟩,⟨by have:=U.kr;show x.k+1+(x.r-1)=_;omega,J.len,λd hd=>by have:=J.lo d hd;show-1<=d/\d<=((x.k+1:Nat):Int);omega,R⟩,by have:=U.kr;show x.r-1+1<=x.r;omega,?_⟩;simp
    ·have a0:¬(j.op≠14/\j.op≠15/\j.op≠16):=λh=>jv (a0.2 h) (by simp)
     have a2:nextF x.k j= []:=by unfold nextF;rw[jh (by omega)]
     have a4:rndF c.length x.k j x.D x.m=ah (x.D,max (max x.m x3) (x3-(eff j.op).1+(eff j.op).2)):=by
      unfold rndF;rw[a3,jb a1,jb a7,a2];rfl
     rw[a4] at R;refine⟨λy=>y.D=x.D,⟨⟨0,0,x.D,0⟩,rfl,by simp⟩,λy J=>⟨λh=>by omega,λ_=> ?_⟩⟩;refine⟨⟨x.k+1,x.r-1,x.D,_⟩,⟨by show x.k+1+(x.r-1)=_;omega,b8,λd hd=>by have:=U.lo d hd;show-1<=d/\d<=((x.k+1:Nat):Int);omega,R⟩,by show x.r-1+1<=x.r;omega,?_⟩;simp[J]
 ·have R:=U.run
  rw[dK (by omega)] at R;simp only[fromF] at R;rw[<-R];refine⟨λh=> ?_,λh=> ?_⟩
  ·simp[endF,h]
  ·simp[endF,h]
end
section
open Go
noncomputable def Yb9:=(.cons dI (.cons dI (.cons dI (.cons dI (.cons dI (.cons dI (.cons dI (.cons dI (.cons dI (.cons dI (.cons dI (.cons dI (.cons dI (.cons dI (.cons dI (.cons dI (.cons dI .nil)))))))))))))))):DcL E (Int×Int×Int×Int×Int×Int×Int×Int×Int×Int×Int×Int×Int×Int×Int×Int×Int×Unit))
noncomputable def dEnv:Dc E Env:= .map (dAgg Yb9) (λx=>⟨x.1,x.2.1,x.2.2.1,x.2.2.2.1,x.2.2.2.2.1,x.2.2.2.2.2.1,x.2.2.2.2.2.2.1,x.2.2.2.2.2.2.2.1,x.2.2.2.2.2.2.2.2.1,x.2.2.2.2.2.2.2.2.2.1,x.2.2.2.2.2.2.2.2.2.2.1,x.2.2.2.2.2.2.2.2.2.2.2.1,x.2.2.2.2.2.2.2.2.2.2.2.2.1,x.2.2.2.2.2.2.2.2.2.2.2.2.2.1,x.2.2.2.2.2.2.2.2.2.2.2.2.2.2.1,x.2.2.2.2.2.2.2.2.2.2.2.2.2.2.2.1,x.2.2.2.2.2.2.2.2.2.2.2.2.2.2.2.2.1⟩)
 (λx=>(x.has,x.v0,x.v1,x.v2,x.v3,x.v4,x.v5,x.v6,x.v7,x.v8,x.v9,x.v10,x.v11,x.v12,x.v13,x.v14,x.v15,())) (λ_=>rfl)
noncomputable def dSt:Dc E St:= .map (dAgg (.cons dI (.cons dI (.cons dI (.cons dI (dL1 Yca))))):Dc E (Int×Int×Int×Int×List Int×Unit)) (λx=>⟨x.1,x.2.1,x.2.2.1,x.2.2.2.1,x.2.2.2.2.1⟩) (λs=>(s.pc,s.fuel,s.status,s.clause,s.stack,())) (λ_=>rfl)
def envV(v:Env):SV thy:= .agg [.int ae .i64 v.has,.int ae .i64 v.v0,.int ae .i64 v.v1,.int ae .i64 v.v2,.int ae .i64 v.v3,.int ae .i64 v.v4,.int ae .i64 v.v5,.int ae .i64 v.v6,.int ae .i64 v.v7,.int ae .i64 v.v8,.int ae .i64 v.v9,.int ae .i64 v.v10,.int ae .i64 v.v11,.int ae .i64 v.v12,.int ae .i64 v.v13,.int ae .i64 v.v14,.int ae .i64 v.v15]
def stV(s:St):SV thy:= .agg [.int ae .i64 s.pc,.int ae .i64 s.fuel,.int ae .i64 s.status,.int ae .i64 s.clause,.psl .ints s.stack ae]
noncomputable def Sver:Sum thy:=sumP (dL1 Z26) (λ_=>True) λx=> .tup [.int ae .i64 (verF x.1).1,.int ae .i64 (verF x.1).2]
noncomputable def F5:Fns thy:=addS F4 20 Sver
theorem Z7j:FnsOk E F5:=Zc Z5m (Yc E_ok (Ze (f:=20) rfl) λx _=>Zev x.1)
abbrev qBFl(j:St):=(aF j)
abbrev qBF1(j:St):=(↑(ab (qBFl j)):Int)
abbrev qBFk:=(0:Int)
abbrev qBF8(j:St):=(ag (wr ac ((qBF1 j)-qBFk)))
abbrev qBF9:=(1:Nat)
abbrev qBF2(j:St):=(ab (aj (qBF8 j) (qBFl j))+qBF9)
abbrev qBFb(j:St) (t:St):=(aF j=aF t/\(ae=af->ae=af))
abbrev qBFd:=(1:Int)
abbrev qBFi(j:St):=(aQ j-qBFd)
abbrev qBF3(I:Bool->Prop) (t:St) (j:St):=(I af->be t=be j/\wr ac (qBFi t)=aQ j/\(13:Int)=av j/\aw t=aw j/\(qBFb t j)/\True)
abbrev qBF4(j:St):=(qBFk<=wr ac ((qBF1 j)-qBFk)/\wr ac ((qBF1 j)-qBFk)=wr ac ((qBF1 j)-qBFk)/\wr ac ((qBF1 j)-qBFk)<=(qBF1 j))
abbrev qBFc(j:St):=(ag (wr ac ((qBF1 j)-(2:Int))))
abbrev qBF5(j:St):=(ab (aj (qBFc j) (qBFl j))+qBF9)
abbrev qBF6(j:St):=(wr ac ((qBF1 j)-qBFd)-qBFk)
abbrev qBF7(j:St):=(qBFk<=wr ac ((qBF1 j)-(2:Int))/\wr ac ((qBF1 j)-(2:Int))=wr ac ((qBF1 j)-(2:Int))/\wr ac ((qBF1 j)-(2:Int))<=(qBF1 j))
abbrev qBFa(j:St):=(wr ac ((qBF1 j)-qBFd)-qBFd)
abbrev qBFn(j:St):=(ag (wr ac ((qBF1 j)-qBFd)))
abbrev qBFe(j:St):=(ab (aj (qBFn j) (qBFl j))+qBF9)
abbrev qBFf:=(-9007199254740992:Int)
abbrev qBFg:=(9007199254740992:Int)
abbrev qBFh:=(140737488355328:Nat)
abbrev qBFj(j:St):=(qBFk<=wr ac ((qBF1 j)-qBFd)/\wr ac ((qBF1 j)-qBFd)=wr ac ((qBF1 j)-qBFd)/\wr ac ((qBF1 j)-qBFd)<=(qBF1 j))
abbrev qBFm:=(0:Nat)
abbrev qBFo(j:St):=(be j+qBFd)
abbrev qBFp(j:St):=(wr ac (qBF6 j))
abbrev qBFq:=(8:Nat)
abbrev qBFr(j:St):=(wr ac (qBFa j))
abbrev qBFs(I:Int) (j:St) (t:St):=(decide (wr ac (I+(qBF1 j))>=(64:Int))=af->be j=be t/\wr ac (qBFi j)=aQ t/\(210:Int)=av t/\aw j=aw t/\(qBFb j t)/\True)
abbrev qBFt:=(↑(qBFm+qBF9+qBF9+qBF9+qBF9+qBF9+qBF9+qBF9+qBF9+qBF9+qBF9+qBF9+qBF9+qBF9+qBF9+qBF9):Int)
abbrev qBFu:=(↑(qBFm+qBF9+qBF9+qBF9+qBF9+qBF9+qBF9+qBF9+qBF9+qBF9+qBF9+qBF9+qBF9+qBF9+qBF9):Int)
abbrev qBFv:=(↑(qBFm+qBF9+qBF9+qBF9+qBF9+qBF9+qBF9+qBF9+qBF9+qBF9+qBF9+qBF9+qBF9+qBF9):Int)
abbrev qBFw(j:Env) (t:Ins):=(Zo dh ac (bC j) (wr ac (qBFd*(2:Int)^min (ag (cd t)) (ak ac)))==qBFk)
abbrev qBFx:=(↑(qBFm+qBF9+qBF9+qBF9+qBF9+qBF9+qBF9+qBF9+qBF9+qBF9+qBF9+qBF9+qBF9):Int)
abbrev qBFy(j:St) (t:St):=(qBFm+(qBFe j)<=ab (aj (qBFn j) (qBFl j)++ [qBFk])/\aj (qBFe j) (aj (qBFn j) (qBFl j)++ [qBFk])=aF t)
abbrev qBFz:=(↑(qBFm+qBF9+qBF9+qBF9+qBF9+qBF9+qBF9+qBF9+qBF9+qBF9+qBF9+qBF9):Int)
abbrev Z7k:=(↑(qBFm+qBF9+qBF9+qBF9+qBF9+qBF9+qBF9+qBF9+qBF9+qBF9+qBF9):Int)
abbrev Z7l:=(↑(qBFm+qBF9+qBF9+qBF9+qBF9+qBF9+qBF9+qBF9+qBF9+qBF9):Int)
abbrev Zfh:=(10:Int)
abbrev Z7m:=(↑(qBFm+qBF9+qBF9+qBF9+qBF9+qBF9+qBF9+qBF9+qBF9):Int)
abbrev Z7n:=(↑(qBFm+qBF9+qBF9+qBF9+qBF9+qBF9+qBF9+qBF9):Int)
abbrev Zx3(j:Int) (t:Int):=(aJ (divF j t (8:Int)) !=qBFk)
abbrev Zx4(j:Int) (t:Int):=(aJ (divF j t (9:Int)) !=qBFk)
abbrev Z7o:=(↑(qBFm+qBF9+qBF9+qBF9+qBF9+qBF9+qBF9):Int)
abbrev Z7p:=(↑(qBFm+qBF9+qBF9+qBF9+qBF9+qBF9):Int)
abbrev Zx5(j:Int) (t:Int):=(aJ (divF j t Zfh) !=qBFk)
theorem Zk5(c:List Ins) (v:Env) (s:St) (below:Int) (z:St):Zk E F5 (vc E F5 400) 67 [.psl .ins c ae,envV v,stV s,.int ae .i64 below] hp0 0 (λr=>ret E (patch hp0 0 r) r.v (stV z))=(
 ((aQ s==qBFk)=af->be s=be z/\aQ s=aQ z/\220=av z/\aw s=aw z/\(qBFb s z)/\True)/\((aQ s==qBFk)=ae->qBFk<=be s/\be s+qBFd<=(↑(ab c):Int)/\∀(x:Ins),c[ag (be s)]? =ah x->True/\(decide ((qBF1 s)<Xi (bG x))=af->be s=be z/\wr ac (qBFi s)=aQ z/\210=av z/\aw s=aw z/\(qBFb s z)/\True)/\(decide ((qBF1 s)<Xi (bG x))=ae->((bG x==qBFd)=af->(qBFs below s z)/\(decide (wr ac (below+(qBF1 s))>=64)=ae->(qBF4 s)/\(qBF2 s)*qBFq<=qBFh/\wr ac (qBFo s)=be z/\wr ac (qBFi s)=aQ z/\av s=av z/\aw s=aw z/\(qBFm+(qBF2 s)<=ab (aj (qBF8 s) (qBFl s)++ [cd x])/\aj (qBF2 s) (aj (qBF8 s) (qBFl s)++ [cd x])=aF z)/\True))/\((bG x==qBFd)=ae->((bG x==2)=af->(qBFs below s z)/\(decide (wr ac (below+(qBF1 s))>=64)=ae->qBFk<=cd x/\((qBFw v x)=af->be s=be z/\wr ac (qBFi s)=aQ z/\191=av z/\aw s=aw z/\(qBFb s z)/\True)/\((qBFw v x)=ae->qBFk<=cd x/\cd x+qBFd<=(↑(16:Nat):Int)/\((cd x==(↑qBFm:Int))=af->∃(Q:Bool->Prop),((decide (bM v<qBFf)=af->Q af)/\(decide (bM v<qBFf)=ae->(decide (bM v>qBFg)=af->Q af)/\(decide (bM v>qBFg)=ae->Q ae)))/\(qBF3 Q s z)/\(Q ae->(qBF4 s)/\(qBF2 s)*qBFq<=qBFh/\wr ac (qBFo s)=be z/\wr ac (qBFi s)=aQ z/\av s=av z/\aw s=aw z/\(qBFm+(qBF2 s)<=ab (aj (qBF8 s) (qBFl s)++ [bM v])/\aj (qBF2 s) (aj (qBF8 s) (qBFl s)++ [bM v])=aF z)/\True))/\((cd x==(↑qBFm:Int))=ae->((cd x==(↑(qBFm+qBF9):Int))=af->∃(Q:Bool->Prop),((decide (bN v<qBFf)=af->Q af)/\(decide (bN v<qBFf)=ae->(decide (bN v>qBFg)=af->Q af)/\(decide (bN v>qBFg)=ae->Q ae)))/\(qBF3 Q s z)/\(Q ae->(qBF4 s)/\(qBF2 s)*qBFq<=qBFh/\wr ac (qBFo s)=be z/\wr ac (qBFi s)=aQ z/\av s=av z/\aw s=aw z/\(qBFm+(qBF2 s)<=ab (aj (qBF8 s) (qBFl s)++ [bN v])/\aj (qBF2 s) (aj (qBF8 s) (qBFl s)++ [bN v])=aF z)/\True))/\((cd x==(↑(qBFm+qBF9):Int))=ae->((cd x==(↑(qBFm+qBF9+qBF9):Int))=af->∃(Q:Bool->Prop),((decide (bO v<qBFf)=af->Q af)/\(decide (bO v<qBFf)=ae->(decide (bO v>qBFg)=af->Q af)/\(decide (bO v>qBFg)=ae->Q ae)))/\(qBF3 Q s z)/\(Q ae->(qBF4 s)/\(qBF2 s)*qBFq<=qBFh/\wr ac (qBFo s)=be z/\wr ac (qBFi s)=aQ z/\av s=av z/\aw s=aw z/\(qBFm+(qBF2 s)<=ab (aj (qBF8 s) (qBFl s)++ [bO v])/\aj (qBF2 s) (aj (qBF8 s) (qBFl s)++ [bO v])=aF z)/\True))/\((cd x==(↑(qBFm+qBF9+qBF9):Int))=ae->((cd x==(↑(qBFm+qBF9+qBF9+qBF9):Int))=af->∃(Q:Bool->Prop),((decide (bP v<qBFf)=af->Q af)/\(decide (bP v<qBFf)=ae->(decide (bP v>qBFg)=af->Q af)/\(decide (bP v>qBFg)=ae->Q ae)))/\(qBF3 Q s z)/\(Q ae->(qBF4 s)/\(qBF2 s)*qBFq<=qBFh/\wr ac (qBFo s)=be z/\wr ac (qBFi s)=aQ z/\av s=av z/\aw s=aw z/\(qBFm+(qBF2 s)<=ab (aj (qBF8 s) (qBFl s)++ [bP v])/\aj (qBF2 s) (aj (qBF8 s) (qBFl s)++ [bP v])=aF z)/\True))/\((cd x==(↑(qBFm+qBF9+qBF9+qBF9):Int))=ae->((cd x==
(↑(qBFm+qBF9+qBF9+qBF9+qBF9):Int))=af->∃(Q:Bool->Prop),((decide (bQ v<qBFf)=af->Q af)/\(decide (bQ v<qBFf)=ae->(decide (bQ v>qBFg)=af->Q af)/\(decide (bQ v>qBFg)=ae->Q ae)))/\(qBF3 Q s z)/\(Q ae->(qBF4 s)/\(qBF2 s)*qBFq<=qBFh/\wr ac (qBFo s)=be z/\wr ac (qBFi s)=aQ z/\av s=av z/\aw s=aw z/\(qBFm+(qBF2 s)<=ab (aj (qBF8 s) (qBFl s)++ [bQ v])/\aj (qBF2 s) (aj (qBF8 s) (qBFl s)++ [bQ v])=aF z)/\True))/\((cd x==(↑(qBFm+qBF9+qBF9+qBF9+qBF9):Int))=ae->((cd x==Z7p)=af->∃(Q:Bool->Prop),((decide (bR v<qBFf)=af->Q af)/\(decide (bR v<qBFf)=ae->(decide (bR v>qBFg)=af->Q af)/\(decide (bR v>qBFg)=ae->Q ae)))/\(qBF3 Q s z)/\(Q ae->(qBF4 s)/\(qBF2 s)*qBFq<=qBFh/\wr ac (qBFo s)=be z/\wr ac (qBFi s)=aQ z/\av s=av z/\aw s=aw z/\(qBFm+(qBF2 s)<=ab (aj (qBF8 s) (qBFl s)++ [bR v])/\aj (qBF2 s) (aj (qBF8 s) (qBFl s)++ [bR v])=aF z)/\True))/\((cd x==Z7p)=ae->((cd x==Z7o)=af->∃(Q:Bool->Prop),((decide (bK v<qBFf)=af->Q af)/\(decide (bK v<qBFf)=ae->(decide (bK v>qBFg)=af->Q af)/\(decide (bK v>qBFg)=ae->Q ae)))/\(qBF3 Q s z)/\(Q ae->(qBF4 s)/\(qBF2 s)*qBFq<=qBFh/\wr ac (qBFo s)=be z/\wr ac (qBFi s)=aQ z/\av s=av z/\aw s=aw z/\(qBFm+(qBF2 s)<=ab (aj (qBF8 s) (qBFl s)++ [bK v])/\aj (qBF2 s) (aj (qBF8 s) (qBFl s)++ [bK v])=aF z)/\True))/\((cd x==Z7o)=ae->((cd x==Z7n)=af->∃(Q:Bool->Prop),((decide (bS v<qBFf)=af->Q af)/\(decide (bS v<qBFf)=ae->(decide (bS v>qBFg)=af->Q af)/\(decide (bS v>qBFg)=ae->Q ae)))/\(qBF3 Q s z)/\(Q ae->(qBF4 s)/\(qBF2 s)*qBFq<=qBFh/\wr ac (qBFo s)=be z/\wr ac (qBFi s)=aQ z/\av s=av z/\aw s=aw z/\(qBFm+(qBF2 s)<=ab (aj (qBF8 s) (qBFl s)++ [bS v])/\aj (qBF2 s) (aj (qBF8 s) (qBFl s)++ [bS v])=aF z)/\True))/\((cd x==Z7n)=ae->((cd x==Z7m)=af->∃(Q:Bool->Prop),((decide (bT v<qBFf)=af->Q af)/\(decide (bT v<qBFf)=ae->(decide (bT v>qBFg)=af->Q af)/\(decide (bT v>qBFg)=ae->Q ae)))/\(qBF3 Q s z)/\(Q ae->(qBF4 s)/\(qBF2 s)*qBFq<=qBFh/\wr ac (qBFo s)=be z/\wr ac (qBFi s)=aQ z/\av s=av z/\aw s=aw z/\(qBFm+(qBF2 s)<=ab (aj (qBF8 s) (qBFl s)++ [bT v])/\aj (qBF2 s) (aj (qBF8 s) (qBFl s)++ [bT v])=aF z)/\True))/\((cd x==Z7m)=ae->((cd x==Z7l)=af->∃(Q:Bool->Prop),((decide (bL v<qBFf)=af->Q af)/\(decide (bL v<qBFf)=ae->(decide (bL v>qBFg)=af->Q af)/\(decide (bL v>qBFg)=ae->Q ae)))/\(qBF3 Q s z)/\(Q ae->(qBF4 s)/\(qBF2 s)*qBFq<=qBFh/\wr ac (qBFo s)=be z/\wr ac (qBFi s)=aQ z/\av s=av z/\aw s=aw z/\(qBFm+(qBF2 s)<=ab (aj (qBF8 s) (qBFl s)++ [bL v])/\aj (qBF2 s) (aj (qBF8 s) (qBFl s)++ [bL v])=aF z)/\True))/\((cd x==Z7l)=ae->((cd x==Z7k)=af->∃(Q:Bool->Prop),((decide (bp v<qBFf)=af->Q af)/\(decide (bp v<qBFf)=ae->(decide (bp v>qBFg)=af->Q af)/\(decide (bp v>qBFg)=ae->Q ae)))/\(qBF3 Q s z)/\(Q ae->
(qBF4 s)/\(qBF2 s)*qBFq<=qBFh/\wr ac (qBFo s)=be z/\wr ac (qBFi s)=aQ z/\av s=av z/\aw s=aw z/\(qBFm+(qBF2 s)<=ab (aj (qBF8 s) (qBFl s)++ [bp v])/\aj (qBF2 s) (aj (qBF8 s) (qBFl s)++ [bp v])=aF z)/\True))/\((cd x==Z7k)=ae->((cd x==qBFz)=af->∃(Q:Bool->Prop),((decide (bj v<qBFf)=af->Q af)/\(decide (bj v<qBFf)=ae->(decide (bj v>qBFg)=af->Q af)/\(decide (bj v>qBFg)=ae->Q ae)))/\(qBF3 Q s z)/\(Q ae->(qBF4 s)/\(qBF2 s)*qBFq<=qBFh/\wr ac (qBFo s)=be z/\wr ac (qBFi s)=aQ z/\av s=av z/\aw s=aw z/\(qBFm+(qBF2 s)<=ab (aj (qBF8 s) (qBFl s)++ [bj v])/\aj (qBF2 s) (aj (qBF8 s) (qBFl s)++ [bj v])=aF z)/\True))/\((cd x==qBFz)=ae->((cd x==qBFx)=af->∃(Q:Bool->Prop),((decide (bq v<qBFf)=af->Q af)/\(decide (bq v<qBFf)=ae->(decide (bq v>qBFg)=af->Q af)/\(decide (bq v>qBFg)=ae->Q ae)))/\(qBF3 Q s z)/\(Q ae->(qBF4 s)/\(qBF2 s)*qBFq<=qBFh/\wr ac (qBFo s)=be z/\wr ac (qBFi s)=aQ z/\av s=av z/\aw s=aw z/\(qBFm+(qBF2 s)<=ab (aj (qBF8 s) (qBFl s)++ [bq v])/\aj (qBF2 s) (aj (qBF8 s) (qBFl s)++ [bq v])=aF z)/\True))/\((cd x==qBFx)=ae->((cd x==qBFv)=af->∃(Q:Bool->Prop),((decide (bk v<qBFf)=af->Q af)/\(decide (bk v<qBFf)=ae->(decide (bk v>qBFg)=af->Q af)/\(decide (bk v>qBFg)=ae->Q ae)))/\(qBF3 Q s z)/\(Q ae->(qBF4 s)/\(qBF2 s)*qBFq<=qBFh/\wr ac (qBFo s)=be z/\wr ac (qBFi s)=aQ z/\av s=av z/\aw s=aw z/\(qBFm+(qBF2 s)<=ab (aj (qBF8 s) (qBFl s)++ [bk v])/\aj (qBF2 s) (aj (qBF8 s) (qBFl s)++ [bk v])=aF z)/\True))/\((cd x==qBFv)=ae->((cd x==qBFu)=af->∃(Q:Bool->Prop),((decide (br v<qBFf)=af->Q af)/\(decide (br v<qBFf)=ae->(decide (br v>qBFg)=af->Q af)/\(decide (br v>qBFg)=ae->Q ae)))/\(qBF3 Q s z)/\(Q ae->(qBF4 s)/\(qBF2 s)*qBFq<=qBFh/\wr ac (qBFo s)=be z/\wr ac (qBFi s)=aQ z/\av s=av z/\aw s=aw z/\(qBFm+(qBF2 s)<=ab (aj (qBF8 s) (qBFl s)++ [br v])/\aj (qBF2 s) (aj (qBF8 s) (qBFl s)++ [br v])=aF z)/\True))/\((cd x==qBFu)=ae->((cd x==qBFt)=af->∃(Q:Bool->Prop),((decide (bm v<qBFf)=af->Q af)/\(decide (bm v<qBFf)=ae->(decide (bm v>qBFg)=af->Q af)/\(decide (bm v>qBFg)=ae->Q ae)))/\(qBF3 Q s z)/\(Q ae->(qBF4 s)/\(qBF2 s)*qBFq<=qBFh/\wr ac (qBFo s)=be z/\wr ac (qBFi s)=aQ z/\av s=av z/\aw s=aw z/\(qBFm+(qBF2 s)<=ab (aj (qBF8 s) (qBFl s)++ [bm v])/\aj (qBF2 s) (aj (qBF8 s) (qBFl s)++ [bm v])=aF z)/\True))/\((cd x==qBFt)=ae->True)))))))))))))))))))/\((bG x==2)=ae->((bG x==12)=af->qBFk<=wr ac (qBF6 s)/\wr ac (qBF6 s)+qBFd<=(qBF1 s)/\∀(j:Int),(qBFl s)[ag (qBFp s)]? =ah j->(decide (cd x<=j)=af->qBFk<=wr ac (qBF6 s)/\wr ac (qBF6 s)+qBFd<=(qBF1 s)/\∀(t:Int),(qBFl s)[ag (qBFp s)]? =ah t->(decide (t<=iB x)=af->(qBFj s)/\(qBFe s)*qBFq<=qBFh/\wr ac (qBFo s)=be z/\wr ac (qBFi s)=aQ z/\av
s=av z/\aw s=aw z/\(qBFm+(qBFe s)<=ab (aj (qBFn s) (qBFl s)++ [qBFd])/\aj (qBFe s) (aj (qBFn s) (qBFl s)++ [qBFd])=aF z)/\True)/\(decide (t<=iB x)=ae->(qBFj s)/\(qBFe s)*qBFq<=qBFh/\wr ac (qBFo s)=be z/\wr ac (qBFi s)=aQ z/\av s=av z/\aw s=aw z/\(qBFy s z)/\True))/\(decide (cd x<=j)=ae->(qBFj s)/\(qBFe s)*qBFq<=qBFh/\wr ac (qBFo s)=be z/\wr ac (qBFi s)=aQ z/\av s=av z/\aw s=aw z/\(qBFy s z)/\True))/\((bG x==12)=ae->((bG x==13)=af->qBFk<=wr ac (qBF6 s)/\wr ac (qBF6 s)+qBFd<=(qBF1 s)/\∀(j:Int),(qBFl s)[ag (qBFp s)]? =ah j->(qBFj s)/\((j==qBFk)=af->cd x=be z/\wr ac (qBFi s)=aQ z/\av s=av z/\aw s=aw z/\(aj (qBFn s) (qBFl s)=aF z/\(ae=af->af=af))/\True)/\((j==qBFk)=ae->wr ac (qBFo s)=be z/\wr ac (qBFi s)=aQ z/\av s=av z/\aw s=aw z/\(aj (qBFn s) (qBFl s)=aF z/\(ae=af->af=af))/\True))/\((bG x==13)=ae->((bG x==14)=af->cd x=be z/\wr ac (qBFi s)=aQ z/\av s=av z/\aw s=aw z/\(qBFb s z)/\True)/\((bG x==14)=ae->((bG x==15)=af->be s=be z/\wr ac (qBFi s)=aQ z/\qBFd=av z/\cd x=aw z/\(qBFb s z)/\True)/\((bG x==15)=ae->((bG x==16)=af->be s=be z/\wr ac (qBFi s)=aQ z/\190=av z/\aw s=aw z/\(qBFb s z)/\True)/\((bG x==16)=ae->((bG x==(↑(3:Nat):Int))=af->qBFk<=wr ac (qBFa s)/\wr ac (qBFa s)+qBFd<=(qBF1 s)/\∀(x:Int),(qBFl s)[ag (qBFr s)]? =ah x->qBFk<=wr ac (qBF6 s)/\wr ac (qBF6 s)+qBFd<=(qBF1 s)/\∀(j:Int),(qBFl s)[ag (qBFp s)]? =ah j->True/\((aJ (addF x j) !=qBFk)=af->((aJ (addF x j) !=qBFk)=af->be s=be z/\wr ac (qBFi s)=aQ z/\wr ac (Zfh+aJ (addF x j))=av z/\aw s=aw z/\(qBFb s z)/\True)/\((aJ (addF x j) !=qBFk)=ae->be s=be z/\wr ac (qBFi s)=aQ z/\av s=av z/\aw s=aw z/\(qBFb s z)/\True))/\((aJ (addF x j) !=qBFk)=ae->(qBF7 s)/\(qBF5 s)*qBFq<=qBFh/\wr ac (qBFo s)=be z/\wr ac (qBFi s)=aQ z/\av s=av z/\aw s=aw z/\(qBFm+(qBF5 s)<=ab (aj (qBFc s) (qBFl s)++ [ay (addF x j)])/\aj (qBF5 s) (aj (qBFc s) (qBFl s)++ [ay (addF x j)])=aF z)/\True))/\((bG x==(↑(3:Nat):Int))=ae->((bG x==(↑(4:Nat):Int))=af->qBFk<=wr ac (qBFa s)/\wr ac (qBFa s)+qBFd<=(qBF1 s)/\∀(x:Int),(qBFl s)[ag (qBFr s)]? =ah x->qBFk<=wr ac (qBF6 s)/\wr ac (qBF6 s)+qBFd<=(qBF1 s)/\∀(j:Int),(qBFl s)[ag (qBFp s)]? =ah j->True/\((aJ (subF x j) !=qBFk)=af->((aJ (subF x j) !=qBFk)=af->be s=be z/\wr ac (qBFi s)=aQ z/\wr ac (Zfh+aJ (subF x j))=av z/\aw s=aw z/\(qBFb s z)/\True)/\((aJ (subF x j) !=qBFk)=ae->be s=be z/\wr ac (qBFi s)=aQ z/\av s=av z/\aw s=aw z/\(qBFb s z)/\True))/\((aJ (subF x j) !=qBFk)=ae->(qBF7 s)/\(qBF5 s)*qBFq<=qBFh/\wr
ac (qBFo s)=be z/\wr ac (qBFi s)=aQ z/\av s=av z/\aw s=aw z/\(qBFm+(qBF5 s)<=ab (aj (qBFc s) (qBFl s)++ [ay (subF x j)])/\aj (qBF5 s) (aj (qBFc s) (qBFl s)++ [ay (subF x j)])=aF z)/\True))/\((bG x==(↑(4:Nat):Int))=ae->((bG x==(↑(5:Nat):Int))=af->qBFk<=wr ac (qBFa s)/\wr ac (qBFa s)+qBFd<=(qBF1 s)/\∀(x:Int),(qBFl s)[ag (qBFr s)]? =ah x->qBFk<=wr ac (qBF6 s)/\wr ac (qBF6 s)+qBFd<=(qBF1 s)/\∀(j:Int),(qBFl s)[ag (qBFp s)]? =ah j->True/\((aJ (mulF x j) !=qBFk)=af->((aJ (mulF x j) !=qBFk)=af->be s=be z/\wr ac (qBFi s)=aQ z/\wr ac (Zfh+aJ (mulF x j))=av z/\aw s=aw z/\(qBFb s z)/\True)/\((aJ (mulF x j) !=qBFk)=ae->be s=be z/\wr ac (qBFi s)=aQ z/\av s=av z/\aw s=aw z/\(qBFb s z)/\True))/\((aJ (mulF x j) !=qBFk)=ae->(qBF7 s)/\(qBF5 s)*qBFq<=qBFh/\wr ac (qBFo s)=be z/\wr ac (qBFi s)=aQ z/\av s=av z/\aw s=aw z/\(qBFm+(qBF5 s)<=ab (aj (qBFc s) (qBFl s)++ [ay (mulF x j)])/\aj (qBF5 s) (aj (qBFc s) (qBFl s)++ [ay (mulF x j)])=aF z)/\True))/\((bG x==(↑(5:Nat):Int))=ae->((bG x==(↑(6:Nat):Int))=af->qBFk<=wr ac (qBFa s)/\wr ac (qBFa s)+qBFd<=(qBF1 s)/\∀(x:Int),(qBFl s)[ag (qBFr s)]? =ah x->qBFk<=wr ac (qBF6 s)/\wr ac (qBF6 s)+qBFd<=(qBF1 s)/\∀(j:Int),(qBFl s)[ag (qBFp s)]? =ah j->(qBF7 s)/\(qBF5 s)*qBFq<=qBFh/\wr ac (qBFo s)=be z/\wr ac (qBFi s)=aQ z/\av s=av z/\aw s=aw z/\(qBFm+(qBF5 s)<=ab (aj (qBFc s) (qBFl s)++ [mm2 ae x j])/\aj (qBF5 s) (aj (qBFc s) (qBFl s)++ [mm2 ae x j])=aF z)/\True)/\((bG x==(↑(6:Nat):Int))=ae->((bG x==(↑(7:Nat):Int))=af->qBFk<=wr ac (qBFa s)/\wr ac (qBFa s)+qBFd<=(qBF1 s)/\∀(x:Int),(qBFl s)[ag (qBFr s)]? =ah x->qBFk<=wr ac (qBF6 s)/\wr ac (qBF6 s)+qBFd<=(qBF1 s)/\∀(j:Int),(qBFl s)[ag (qBFp s)]? =ah j->(qBF7 s)/\(qBF5 s)*qBFq<=qBFh/\wr ac (qBFo s)=be z/\wr ac (qBFi s)=aQ z/\av s=av z/\aw s=aw z/\(qBFm+(qBF5 s)<=ab (aj (qBFc s) (qBFl s)++ [mm2 af x j])/\aj (qBF5 s) (aj (qBFc s) (qBFl s)++ [mm2 af x j])=aF z)/\True)/\((bG x==(↑(7:Nat):Int))=ae->((bG x==(↑qBFq:Int))=af->qBFk<=wr ac (qBFa s)/\wr ac (qBFa s)+qBFd<=(qBF1 s)/\∀(x:Int),(qBFl s)[ag (qBFr s)]? =ah x->qBFk<=wr ac (qBF6 s)/\wr ac (qBF6 s)+qBFd<=(qBF1 s)/\∀(j:Int),(qBFl s)[ag (qBFp s)]? =ah j->True/\((Zx3 x j)=af->((Zx3 x j)=af->be s=be z/\wr ac (qBFi s)=aQ z/\wr ac (Zfh+aJ (divF x j 8))=av z/\aw s=aw z/\(qBFb s z)/\True)/\((Zx3 x j)=ae->be s=be z/\wr ac (qBFi s)=aQ z/\av s=av z/\aw s=aw z/\(qBFb s z)/\True))/\((Zx3 x j)=ae->(qBF7 s)/\(qBF5 s)*qBFq<=qBFh/\wr ac (qBFo s)=be z/\wr ac (qBFi s)=aQ z/\av s=av z/\aw s=aw z/\(qBFm+(qBF5 s)<=ab (aj (qBFc s) (qBFl s)++ [ay (divF x j 8)])/\aj (qBF5 s) (aj (qBFc s) (qBFl s)++ [ay
(divF x j 8)])=aF z)/\True))/\((bG x==(↑qBFq:Int))=ae->((bG x==(↑(9:Nat):Int))=af->qBFk<=wr ac (qBFa s)/\wr ac (qBFa s)+qBFd<=(qBF1 s)/\∀(x:Int),(qBFl s)[ag (qBFr s)]? =ah x->qBFk<=wr ac (qBF6 s)/\wr ac (qBF6 s)+qBFd<=(qBF1 s)/\∀(j:Int),(qBFl s)[ag (qBFp s)]? =ah j->True/\((Zx4 x j)=af->((Zx4 x j)=af->be s=be z/\wr ac (qBFi s)=aQ z/\wr ac (Zfh+aJ (divF x j 9))=av z/\aw s=aw z/\(qBFb s z)/\True)/\((Zx4 x j)=ae->be s=be z/\wr ac (qBFi s)=aQ z/\av s=av z/\aw s=aw z/\(qBFb s z)/\True))/\((Zx4 x j)=ae->(qBF7 s)/\(qBF5 s)*qBFq<=qBFh/\wr ac (qBFo s)=be z/\wr ac (qBFi s)=aQ z/\av s=av z/\aw s=aw z/\(qBFm+(qBF5 s)<=ab (aj (qBFc s) (qBFl s)++ [ay (divF x j 9)])/\aj (qBF5 s) (aj (qBFc s) (qBFl s)++ [ay (divF x j 9)])=aF z)/\True))/\((bG x==(↑(9:Nat):Int))=ae->((bG x==(↑(10:Nat):Int))=af->qBFk<=wr ac (qBFa s)/\wr ac (qBFa s)+qBFd<=(qBF1 s)/\∀(x:Int),(qBFl s)[ag (qBFr s)]? =ah x->qBFk<=wr ac (qBF6 s)/\wr ac (qBF6 s)+qBFd<=(qBF1 s)/\∀(j:Int),(qBFl s)[ag (qBFp s)]? =ah j->True/\((Zx5 x j)=af->((Zx5 x j)=af->be s=be z/\wr ac (qBFi s)=aQ z/\wr ac (Zfh+aJ (divF x j Zfh))=av z/\aw s=aw z/\(qBFb s z)/\True)/\((Zx5 x j)=ae->be s=be z/\wr ac (qBFi s)=aQ z/\av s=av z/\aw s=aw z/\(qBFb s z)/\True))/\((Zx5 x j)=ae->(qBF7 s)/\(qBF5 s)*qBFq<=qBFh/\wr ac (qBFo s)=be z/\wr ac (qBFi s)=aQ z/\av s=av z/\aw s=aw z/\(qBFm+(qBF5 s)<=ab (aj (qBFc s) (qBFl s)++ [ay (divF x j Zfh)])/\aj (qBF5 s) (aj (qBFc s) (qBFl s)++ [ay (divF x j Zfh)])=aF z)/\True))/\((bG x==(↑(10:Nat):Int))=ae->((bG x==(↑(11:Nat):Int))=af->qBFk<=wr ac (qBFa s)/\wr ac (qBFa s)+qBFd<=(qBF1 s)/\∀(x:Int),(qBFl s)[ag (qBFr s)]? =ah x->qBFk<=wr ac (qBF6 s)/\wr ac (qBF6 s)+qBFd<=(qBF1 s)/\∀(j:Int),(qBFl s)[ag (qBFp s)]? =ah j->(decide (x<j)=af->(qBF7 s)/\(qBF5 s)*qBFq<=qBFh/\wr ac (qBFo s)=be z/\wr ac (qBFi s)=aQ z/\av s=av z/\aw s=aw z/\(qBFm+(qBF5 s)<=ab (aj (qBFc s) (qBFl s)++ [qBFd])/\aj (qBF5 s) (aj (qBFc s) (qBFl s)++ [qBFd])=aF z)/\True)/\(decide (x<j)=ae->(qBF7 s)/\(qBF5 s)*qBFq<=qBFh/\wr ac (qBFo s)=be z/\wr ac (qBFi s)=aQ z/\av s=av z/\aw s=aw z/\(qBFm+(qBF5 s)<=ab (aj (qBFc s) (qBFl s)++ [qBFk])/\aj (qBF5 s) (aj (qBFc s) (qBFl s)++ [qBFk])=aF z)/\True))/\((bG x==(↑(11:Nat):Int))=ae->qBFk<=wr ac (qBFa s)/\wr ac (qBFa s)+qBFd<=(qBF1 s)/\∀(x:Int),(qBFl s)[ag (qBFr s)]? =ah x->qBFk<=wr ac (qBF6 s)/\wr ac (qBF6 s)+qBFd<=(qBF1 s)/\∀(x:Int),(qBFl s)[ag (qBFp s)]? =ah x->False))))))))))))))))))):=by kernel_rfl
abbrev Zt:=(0:Nat)
abbrev Zj:=(1:Nat)
abbrev Z7q:=(↑(Zt+Zj+Zj+Zj+Zj+Zj+Zj+Zj+Zj+Zj+Zj+Zj+Zj):Int)
abbrev Xj:=(9007199254740992:Int)
abbrev Ua:=(1:Int)
abbrev Yv(j:St):=(be j+Ua)
abbrev Z7r:=(↑(Zt+Zj+Zj+Zj+Zj):Int)
abbrev Wg(j:St):=(aF j)
abbrev Xa(j:St):=(Zt+ab (Wg j)+Zj)
abbrev Xb(j:St):=(Zt+ab (Wg j))
abbrev Znx:=(140737488355328:Nat)
abbrev Uj(j:St):=(Zt+Zj<=Zt+ab (Wg j)/\(Xb j)*(8:Nat)<=Znx)
abbrev Z7s:=(↑(Zt+Zj+Zj+Zj+Zj+Zj+Zj+Zj+Zj+Zj+Zj+Zj):Int)
abbrev Xk:=(-9007199254740992:Int)
abbrev Z7t:=(↑(Zt+Zj+Zj+Zj+Zj+Zj):Int)
abbrev Z7u:=(↑(Zt+Zj+Zj+Zj+Zj+Zj+Zj+Zj+Zj+Zj+Zj+Zj+Zj+Zj+Zj):Int)
abbrev Z7v:=(↑(Zt+Zj+Zj+Zj+Zj+Zj+Zj+Zj):Int)
abbrev Z7w:=(↑(Zt+Zj+Zj+Zj+Zj+Zj+Zj):Int)
abbrev Wp:=(0:Int)
abbrev Z7x(j:Env) (t:Ins):=(Zo dh ac (aB (bC j) ((2:Int)^min (ag (cd t)) (ak ac))) Ua==Wp)
abbrev Yd(j:St):=(aQ j-Ua)
abbrev Zcd(j:St):=(↑(ab (Wg j)):Int)
abbrev Xc(j:St):=([]++aF j)
abbrev Uk(j:St):=(Zt+ab (Wg j)<=ab (Xc j)/\Zt<=Zt+ab (Wg j)/\(Xa j)*(8:Nat)<=Znx)
abbrev Z7y:=(↑(Zt+Zj+Zj+Zj+Zj+Zj+Zj+Zj+Zj):Int)
abbrev Yq:=(Zt+Zj)
abbrev Z2s:=(ae=af->ae=af)
abbrev Zfi(j:St) (t:St):=(aF j=aF t/\Z2s)
abbrev Z7z:=(↑(Zt+Zj+Zj+Zj+Zj+Zj+Zj+Zj+Zj+Zj+Zj+Zj+Zj+Zj):Int)
abbrev Z70:=(↑(Zt+Zj+Zj+Zj+Zj+Zj+Zj+Zj+Zj+Zj+Zj+Zj+Zj+Zj+Zj+Zj):Int)
abbrev Z71:=(↑(Zt+Zj+Zj+Zj+Zj+Zj+Zj+Zj+Zj+Zj):Int)
abbrev Z72:=(↑(Zt+Zj+Zj+Zj+Zj+Zj+Zj+Zj+Zj+Zj+Zj):Int)
abbrev Uv(I:Bool->Prop) (t:St) (j:St):=(I af->be t=be j/\wr ac (Yd t)=aQ j/\(13:Int)=av j/\aw t=aw j/\(Zfi t j)/\True)
abbrev Z73(R:Int) (j:St) (J:Ins) (I:Env) (t:St):=(decide (wr ac (R+(Zcd j))>=(64:Int))=ae->((bG J==(2:Int))=af->Wp<=cd J/\((Z7x I J)=af->be j=be t/\wr ac (Yd j)=aQ t/\(191:Int)=av t/\aw j=aw t/\(Zfi j t)/\True)/\((Z7x I J)=ae->Wp<=cd J/\cd J+Ua<=(↑(16:Nat):Int)/\((cd J==(↑Zt:Int))=af->∃(Q:Bool->Prop),((decide (bM I<Xk)=af->Q af)/\(decide (bM I<Xk)=ae->(decide (bM I>Xj)=af->Q af)/\(decide (bM I>Xj)=ae->Q ae)))/\(Uv Q j t)/\(Q ae->(aF j= []->wr ac (Yv j)=be t/\wr ac (Yd j)=aQ t/\av j=av t/\aw j=aw t/\(Zt+Yq<=ab ([]++ [bM I])/\aj Yq ([]++ [bM I])=aF t)/\True)/\(aF j≠ []->(Uj j)/\(Uk j)/\wr ac (Yv j)=be t/\wr ac (Yd j)=aQ t/\av j=av t/\aw j=aw t/\(Zt+(Xa j)<=ab (aj (Xb j) (Xc j)++ [bM I])/\aj (Xa j) (aj (Xb j) (Xc j)++ [bM I])=aF t)/\True)))/\((cd J==(↑Zt:Int))=ae->((cd J==(↑Yq:Int))=af->∃(Q:Bool->Prop),((decide (bN I<Xk)=af->Q af)/\(decide (bN I<Xk)=ae->(decide (bN I>Xj)=af->Q af)/\(decide (bN I>Xj)=ae->Q ae)))/\(Uv Q j t)/\(Q ae->(aF j= []->wr ac (Yv j)=be t/\wr ac (Yd j)=aQ t/\av j=av t/\aw j=aw t/\(Zt+Yq<=ab ([]++ [bN I])/\aj Yq ([]++ [bN I])=aF t)/\True)/\(aF j≠ []->(Uj j)/\(Uk j)/\wr ac (Yv j)=be t/\wr ac (Yd j)=aQ t/\av j=av t/\aw j=aw t/\(Zt+(Xa j)<=ab (aj (Xb j) (Xc j)++ [bN I])/\aj (Xa j) (aj (Xb j) (Xc j)++ [bN I])=aF t)/\True)))/\((cd J==(↑Yq:Int))=ae->((cd J==(↑(Zt+Zj+Zj):Int))=af->∃(Q:Bool->Prop),((decide (bO I<Xk)=af->Q af)/\(decide (bO I<Xk)=ae->(decide (bO I>Xj)=af->Q af)/\(decide (bO I>Xj)=ae->Q ae)))/\(Uv Q j t)/\(Q ae->(aF j= []->wr ac (Yv j)=be t/\wr ac (Yd j)=aQ t/\av j=av t/\aw j=aw t/\(Zt+Yq<=ab ([]++ [bO I])/\aj Yq ([]++ [bO I])=aF t)/\True)/\(aF j≠ []->(Uj j)/\(Uk j)/\wr ac (Yv j)=be t/\wr ac (Yd j)=aQ t/\av j=av t/\aw j=aw t/\(Zt+(Xa j)<=ab (aj (Xb j) (Xc j)++ [bO I])/\aj (Xa j) (aj (Xb j) (Xc j)++ [bO I])=aF t)/\True)))/\((cd J==(↑(Zt+Zj+Zj):Int))=ae->((cd J==(↑(Zt+Zj+Zj+Zj):Int))=af->∃(Q:Bool->Prop),((decide (bP I<Xk)=af->Q af)/\(decide (bP I<Xk)=ae->(decide (bP I>Xj)=af->Q af)/\(decide (bP I>Xj)=ae->Q ae)))/\(Uv Q j t)/\(Q ae->(aF j= []->wr ac (Yv j)=be t/\wr ac (Yd j)=aQ t/\av j=av t/\aw j=aw t/\(Zt+Yq<=ab ([]++ [bP I])/\aj Yq ([]++ [bP I])=aF t)/\True)/\(aF j≠ []->(Uj j)/\(Uk j)/\wr ac (Yv j)=be t/\wr ac (Yd j)=aQ t/\av j=av t/\aw j=aw t/\(Zt+(Xa j)<=ab (aj (Xb j) (Xc j)++ [bP I])/\aj (Xa j) (aj (Xb j) (Xc j)++ [bP I])=aF t)/\True)))/\((cd J==(↑(Zt+Zj+Zj+Zj):Int))=ae->((cd J==Z7r)=af->∃(Q:Bool->Prop),((decide (bQ I<Xk)=af->Q af)/\(decide (bQ I<Xk)=ae->(decide (bQ I>Xj)=af->Q af)/\(decide (bQ I>Xj)=ae->Q ae)))/\(Uv Q j t)/\(Q ae->(aF j= []->wr ac (Yv j)=be t/\wr ac (Yd j)=aQ t/\av j=av t/\aw j=aw t/\(Zt+Yq<=ab ([]++ [bQ I])/\aj Yq ([]++ [bQ I])=aF t)/\True)/\(aF j≠ []->(Uj j)/\(Uk j)/\wr ac (Yv j)=be t/\wr ac (Yd j)=aQ t/\av j=av t/\aw j=aw t/\(Zt+(Xa j)<=ab (aj (Xb j) (Xc j)++ [bQ I])/\aj (Xa j) (aj (Xb j) (Xc j)++ [bQ I])=aF t)/\True)))/\((cd J==Z7r)=ae->((cd J==Z7t)=af->∃(Q:Bool->Prop),((decide (bR I<Xk)=af->Q af)/\(decide (bR I<Xk)=ae->(decide (bR I>Xj)=af->Q af)/\(decide (bR I>Xj)=ae->Q ae)))/\(Uv Q j t)/\(Q ae->(aF j= []->wr ac (Yv j)=be t/\wr ac (Yd j)=aQ t/\av j=av t/\aw j=aw t/\(Zt+Yq<=ab ([]++ [bR I])/\aj Yq ([]++ [bR I])=aF t)/\True)/\(aF j≠ []->(Uj j)/\(Uk j)/\wr ac (Yv j)=be t/\wr ac (Yd j)=aQ t/\av j=av t/\aw j=aw t/\(Zt+(Xa j)<=ab (aj (Xb j) (Xc j)++ [bR I])/\aj (Xa j) (aj (Xb j) (Xc j)++ [bR I])=aF t)/\True)))/\((cd J==Z7t)=ae->((cd J==Z7w)=af->∃(Q:Bool->Prop),((decide (bK I<Xk)=af->Q af)/\(decide (bK I<Xk)=ae->(decide (bK I>Xj)=af->Q af)/\(decide (bK I>Xj)=ae->Q ae)))/\(Uv Q j t)/\(Q ae->(aF j= []->wr ac (Yv j)=be t/\wr ac (Yd j)=aQ t/\av j=av t/\aw j=aw t/\(Zt+Yq<=ab ([]++ [bK I])/\aj Yq ([]++ [bK I])=aF t)/\True)/\(aF j≠ []->(Uj j)/\(Uk j)/\wr ac (Yv j)=be t/\wr ac (Yd j)=aQ t/\av j=av t/\aw j=aw t/\(Zt+(Xa j)<=ab (aj (Xb j) (Xc j)++ [bK I])/\aj (Xa j) (aj (Xb j) (Xc j)++ [bK I])=aF t)/\True)))/\((cd J==Z7w)=ae->((cd J==Z7v)=af->∃(Q:Bool->Prop),((decide (bS I<Xk)=af->Q af)/\(decide (bS I<Xk)=ae->(decide (bS I>Xj)=af->Q af)/\(decide (bS I>Xj)=ae->Q ae)))/\(Uv Q j t)/\(Q ae->(aF j= []->wr ac (Yv j)=be t/\wr ac (Yd j)=aQ t/\av j=av t/\aw j=aw t/\(Zt+Yq<=ab ([]++ [bS I])/\aj Yq ([]++ [bS I])=aF t)/\True)/\(aF j≠ []->(Uj j)/\(Uk j)/\wr ac (Yv j)=be t/\wr ac (Yd j)=aQ t/\av j=av t/\aw j=aw t/\(Zt+(Xa j)<=ab (aj (Xb j) (Xc j)++ [bS I])/\aj (Xa j) (aj (Xb j) (Xc j)++ [bS I])=aF t)/\True)))/\((cd J==Z7v)=ae->((cd J==Z7y)=af->∃(Q:Bool->Prop),((decide (bT I<Xk)=af->Q af)/\(decide (bT I<Xk)=ae->(decide (bT I>Xj)=af->Q af)/\(decide (bT I>Xj)=ae->Q ae)))/\(Uv Q j t)/\(Q ae->(aF j= []->wr ac (Yv j)=be t/\wr ac (Yd j)=aQ t/\av j=av t/\aw j=aw t/\(Zt+Yq<=ab ([]++ [bT I])/\aj Yq ([]++ [bT I])=aF t)/\True)/\(aF j≠ []->(Uj j)/\(Uk j)/\wr ac (Yv j)=be t/\wr ac (Yd j)=aQ t/\av j=av t/\aw j=aw t/\(Zt+(Xa j)<=ab (aj (Xb j) (Xc j)++ [bT I])/\aj (Xa j) (aj (Xb j) (Xc j)++ [bT I])=aF t)/\True)))/\((cd J==Z7y)=ae->((cd J==Z71)=af->∃(Q:Bool->Prop),((decide (bL I<Xk)=af->Q af)/\(decide (bL I<Xk)=ae->(decide (bL I>Xj)=af->Q af)/\(decide (bL I>Xj)=ae->Q ae)))/\(Uv Q j t)/\(Q ae->(aF j= []->wr ac (Yv j)=be t/\wr ac (Yd j)=aQ t/\av j=av t/\aw j=aw t/\(Zt+Yq<=ab ([]++ [bL I])/\aj Yq ([]++ [bL I])=aF t)/\True)/\(aF j≠ []->(Uj j)/\(Uk j)/\wr ac (Yv j)=be t/\wr ac (Yd j)=aQ t/\av j=av t/\aw j=aw t/\(Zt+(Xa j)<=ab (aj (Xb j) (Xc j)++ [bL I])/\aj (Xa j) (aj (Xb j) (Xc j)++ [bL I])=aF t)/\True)))/\((cd J==Z71)=ae->((cd J==Z72)=af->∃(Q:Bool->Prop),((decide (bp I<Xk)=af->Q af)/\(decide (bp I<Xk)=ae->(decide (bp I>Xj)=af->Q af)/\(decide (bp I>Xj)=ae->Q ae)))/\(Uv Q j t)/\(Q ae->(aF j= []->wr ac (Yv j)=be t/\wr ac (Yd j)=aQ t/\av j=av t/\aw j=aw t/\(Zt+Yq<=ab ([]++ [bp I])/\aj Yq ([]++ [bp I])=aF t)/\True)/\(aF j≠ []->(Uj j)/\(Uk j)/\wr ac (Yv j)=be t/\wr ac (Yd j)=aQ t/\av j=av t/\aw j=aw t/\(Zt+(Xa j)<=ab (aj (Xb j) (Xc j)++ [bp I])/\aj (Xa j) (aj (Xb j) (Xc j)++ [bp I])=aF t)/\True)))/\((cd J==Z72)=ae->((cd J==Z7s)=af->∃(Q:Bool->Prop),((decide (bj I<Xk)=af->Q af)/\(decide (bj I<Xk)=ae->(decide (bj I>Xj)=af->Q af)/\(decide (bj I>Xj)=ae->Q ae)))/\(Uv Q j t)/\(Q ae->(aF j= []->wr ac (Yv j)=be t/\wr ac (Yd j)=aQ t/\av j=av t/\aw j=aw t/\(Zt+Yq<=ab ([]++ [bj I])/\aj Yq ([]++ [bj I])=aF t)/\True)/\(aF j≠ []->(Uj j)/\(Uk j)/\wr ac (Yv j)=be t/\wr ac (Yd j)=aQ t/\av j=av t/\aw j=aw t/\(Zt+(Xa j)<=ab (aj (Xb j) (Xc j)++ [bj I])/\aj (Xa j) (aj (Xb j) (Xc j)++ [bj I])=aF t)/\True)))/\((cd J==Z7s)=ae->((cd J==Z7q)=af->∃(Q:Bool->Prop),((decide (bq I<Xk)=af->Q af)/\(decide (bq I<Xk)=ae->(decide (bq I>Xj)=af->Q af)/\(decide (bq I>Xj)=ae->Q ae)))/\(Uv Q j t)/\(Q ae->(aF j= []->wr ac (Yv j)=be t/\wr ac (Yd j)=aQ t/\av j=av t/\aw j=aw t/\(Zt+Yq<=ab ([]++ [bq I])/\aj Yq ([]++ [bq I])=aF t)/\True)/\(aF j≠ []->(Uj j)/\(Uk j)/\wr ac (Yv j)=be t/\wr ac (Yd j)=aQ t/\av j=av t/\aw j=aw t/\(Zt+(Xa j)<=ab (aj (Xb j) (Xc j)++ [bq I])/\aj (Xa j) (aj (Xb j) (Xc j)++ [bq I])=aF t)/\True)))/\((cd J==Z7q)=ae->((cd J==Z7z)=af->∃(Q:Bool->Prop),((decide (bk I<Xk)=af->Q af)/\(decide (bk I<Xk)=ae->(decide (bk I>Xj)=af->Q af)/\(decide (bk I>Xj)=ae->Q ae)))/\(Uv Q j t)/\(Q ae->(aF j= []->wr ac (Yv j)=be t/\wr ac (Yd j)=aQ t/\av j=av t/\aw j=aw t/\(Zt+Yq<=ab ([]++ [bk I])/\aj Yq ([]++ [bk I])=aF t)/\True)/\(aF j≠ []->(Uj j)/\(Uk j)/\wr ac (Yv j)=be t/\wr ac (Yd j)=aQ t/\av j=av t/\aw j=aw t/\(Zt+(Xa j)<=ab (aj (Xb j) (Xc j)++ [bk I])/\aj (Xa j) (aj (Xb j) (Xc j)++ [bk I])=aF t)/\True)))/\((cd J==Z7z)=ae->((cd J==Z7u)=af->∃(Q:Bool->Prop),((decide (br I<Xk)=af->Q af)/\(decide (br I<Xk)=ae->(decide (br I>Xj)=af->Q af)/\(decide (br I>Xj)=ae->Q ae)))/\(Uv Q j t)/\(Q ae->(aF j= []->wr ac (Yv j)=be t/\wr ac (Yd j)=aQ t/\av j=av t/\aw j=aw t/\(Zt+Yq<=ab ([]++ [br I])/\aj Yq ([]++ [br I])=aF t)/\True)/\(aF j≠ []->(Uj j)/\(Uk j)/\wr ac (Yv j)=be t/\wr ac (Yd j)=aQ t/\av j=av t/\aw j=aw t/\(Zt+(Xa j)<=ab (aj (Xb j) (Xc j)++ [br I])/\aj (Xa j) (aj (Xb j) (Xc j)++ [br I])=aF t)/\True)))/\((cd J==Z7u)=ae->((cd J==Z70)=af->∃(Q:Bool->Prop),((decide (bm I<Xk)=af->Q af)/\(decide (bm I<Xk)=ae->(decide (bm I>Xj)=af->Q af)/\(decide (bm I>Xj)=ae->Q ae)))/\(Uv Q j t)/\(Q ae->(aF j= []->wr ac (Yv j)=be t/\wr ac (Yd j)=aQ t/\av j=av t/\aw j=aw t/\(Zt+Yq<=ab ([]++ [bm I])/\aj Yq ([]++ [bm I])=aF t)/\True)/\(aF j≠ []->(Uj j)/\(Uk j)/\wr ac (Yv j)=be t/\wr ac (Yd j)=aQ t/\av j=av t/\aw j=aw t/\(Zt+(Xa j)<=ab (aj (Xb j) (Xc j)++ [bm I])/\aj (Xa j) (aj (Xb j) (Xc j)++ [bm I])=aF t)/\True)))/\((cd J==Z70)=ae->True))))))))))))))))))/\((bG J==(2:Int))=ae->(aF j= []->wr ac (Yv j)=be t/\wr ac (Yd j)=aQ t/\av j=av t/\aw j=aw t/\(Zt+Yq<=ab ([]++ [cd J])/\aj Yq ([]++ [cd J])=aF t)/\True)/\(aF j≠ []->(Uj j)/\(Uk j)/\wr ac (Yv j)=be t/\wr ac (Yd j)=aQ t/\av j=av t/\aw j=aw t/\(Zt+(Xa j)<=ab (aj (Xb j) (Xc j)++ [cd J])/\aj (Xa j) (aj (Xb j) (Xc j)++ [cd J])=aF t)/\True)))
abbrev Zdz(j:St):=((Zcd j)-Ua)
abbrev Zs3(j:St):=(wr ac (Zdz j))
abbrev Ziq(j:St):=(ag (Zs3 j))
abbrev Zs4(j:St):=(aj (Ziq j) (Wg j))
abbrev Zs5(j:St):=(Zt+ab (Zs4 j)+Zj)
abbrev Zs6(j:St):=(Zt+ab (Zs4 j))
abbrev Zs7(j:St):=([]++aj (Ziq j) (Wg j))
abbrev Z74(j:St):=(Zt+ab (Zs4 j)<=ab (Zs7 j)/\Zt<=Zt+ab (Zs4 j)/\(Zs5 j)*(8:Nat)<=Znx)
abbrev Z75(j:St):=(Zt+Zj<=Zt+ab (Zs4 j)/\(Zs6 j)*(8:Nat)<=Znx)
abbrev Z76(j:St) (t:St):=(aj (Ziq j) (Wg j)≠ []->(Z75 j)/\(Z74 j)/\wr ac (Yv j)=be t/\wr ac (Yd j)=aQ t/\av j=av t/\aw j=aw t/\(Zt+(Zs5 j)<=ab (aj (Zs6 j) (Zs7 j)++ [Wp])/\aj (Zs5 j) (aj (Zs6 j) (Zs7 j)++ [Wp])=aF t)/\True)
abbrev Zny(j:St):=((Zcd j)-(2:Int))
abbrev Znz(j:St):=(ag (wr ac (Zny j)))
abbrev Z77(j:St) (t:St):=(aj (Ziq j) (Wg j)= []->wr ac (Yv j)=be t/\wr ac (Yd j)=aQ t/\av j=av t/\aw j=aw t/\(Zt+Yq<=ab ([]++ [Wp])/\aj Yq ([]++ [Wp])=aF t)/\True)
abbrev Zk6(j:St):=(aj (Znz j) (Wg j))
abbrev Zx6(j:St):=(Wp<=wr ac (Zdz j)/\wr ac (Zdz j)<=(Zcd j))
abbrev Z78(I:Int) (j:St) (t:St):=(decide (wr ac (I+(Zcd j))>=(64:Int))=af->be j=be t/\wr ac (Yd j)=aQ t/\(210:Int)=av t/\aw j=aw t/\(Zfi j t)/\True)
abbrev Z2t(j:St):=(Zt+ab (Zk6 j)+Zj)
theorem Zir(c:List Ins) (v:Env) (s:St) (below:Int) (z:St):Zk E F5 (vc E F5 400) 77 [.psl .ins c ae,envV v,stV s,.int ae .i64 below] hp0 0 (λr=>ret E (patch hp0 0 r) r.v (stV z))=(
 ((aQ s==Wp)=af->be s=be z/\aQ s=aQ z/\220=av z/\aw s=aw z/\(Zfi s z)/\True)/\((aQ s==Wp)=ae->Wp<=be s/\be s+Ua<=(↑(ab c):Int)/\∀(x:Ins),c[ag (be s)]? =ah x->True/\(decide ((Zcd s)<Xi (bG x))=af->be s=be z/\wr ac (Yd s)=aQ z/\210=av z/\aw s=aw z/\(Zfi s z)/\True)/\(decide ((Zcd s)<Xi (bG x))=ae->((bG x==Ua)=af->(Z78 below s z)/\(Z73 below s x v z))/\((bG x==Ua)=ae->((bG x==2)=af->(Z78 below s z)/\(Z73 below s x v z))/\((bG x==2)=ae->((bG x==12)=af->Wp<=wr ac (Zdz s)/\wr ac (Zdz s)+Ua<=(Zcd s)/\∀(j:Int),(Wg s)[ag (Zs3 s)]? =ah j->(decide (cd x<=j)=af->Wp<=wr ac (Zdz s)/\wr ac (Zdz s)+Ua<=(Zcd s)/\∀(t:Int),(Wg s)[ag (Zs3 s)]? =ah t->(decide (t<=iB x)=af->(Zx6 s)/\(aj (Ziq s) (Wg s)= []->wr ac (Yv s)=be z/\wr ac (Yd s)=aQ z/\av s=av z/\aw s=aw z/\(Zt+Yq<=ab ([]++ [Ua])/\aj Yq ([]++ [Ua])=aF z)/\True)/\(aj (Ziq s) (Wg s)≠ []->(Z75 s)/\(Z74 s)/\wr ac (Yv s)=be z/\wr ac (Yd s)=aQ z/\av s=av z/\aw s=aw z/\(Zt+(Zs5 s)<=ab (aj (Zs6 s) (Zs7 s)++ [Ua])/\aj (Zs5 s) (aj (Zs6 s) (Zs7 s)++ [Ua])=aF z)/\True))/\(decide (t<=iB x)=ae->(Zx6 s)/\(Z77 s z)/\(Z76 s z)))/\(decide (cd x<=j)=ae->(Zx6 s)/\(Z77 s z)/\(Z76 s z)))/\((bG x==12)=ae->((bG x==13)=af->Wp<=wr ac (Zdz s)/\wr ac (Zdz s)+Ua<=(Zcd s)/\∀(j:Int),(Wg s)[ag (Zs3 s)]? =ah j->(Zx6 s)/\((j==Wp)=af->cd x=be z/\wr ac (Yd s)=aQ z/\av s=av z/\aw s=aw z/\(aj (Ziq s) (Wg s)=aF z/\Z2s)/\True)/\((j==Wp)=ae->wr ac (Yv s)=be z/\wr ac (Yd s)=aQ z/\av s=av z/\aw s=aw z/\(aj (Ziq s) (Wg s)=aF z/\Z2s)/\True))/\((bG x==13)=ae->((bG x==14)=af->cd x=be z/\wr ac (Yd s)=aQ z/\av s=av z/\aw s=aw z/\(Zfi s z)/\True)/\((bG x==14)=ae->((bG x==15)=af->be s=be z/\wr ac (Yd s)=aQ z/\Ua=av z/\cd x=aw z/\(Zfi s z)/\True)/\((bG x==15)=ae->((bG x==16)=af->be s=be z/\wr ac (Yd s)=aQ z/\190=av z/\aw s=aw z/\(Zfi s z)/\True)/\((bG x==16)=ae->Wp<=wr ac (Zny s)/\wr ac (Zny s)+Ua<=(Zcd s)/\∀(j:Int),(Wg s)[ag (wr ac (Zny s))]? =ah j->Wp<=wr ac (Zdz s)/\wr ac (Zdz s)+Ua<=(Zcd s)/\∀(t:Int),(Wg s)[ag (Zs3 s)]? =ah t->True/\((aJ (binF (bG x) j t) !=Wp)=af->((aJ (binF (bG x) j t) !=Wp)=af->be s=be z/\wr ac (Yd s)=aQ z/\wr ac (10+aJ (binF (bG x) j t))=av z/\aw s=aw z/\(Zfi s z)/\True)/\((aJ (binF (bG x) j t) !=Wp)=ae->be s=be z/\wr ac (Yd s)=aQ z/\av s=av z/\
aw s=aw z/\(Zfi s z)/\True))/\((aJ (binF (bG x) j t) !=Wp)=ae->(Wp<=wr ac (Zny s)/\wr ac (Zny s)<=(Zcd s))/\(aj (Znz s) (Wg s)= []->wr ac (Yv s)=be z/\wr ac (Yd s)=aQ z/\av s=av z/\aw s=aw z/\(Zt+Yq<=ab ([]++ [ay (binF (bG x) j t)])/\aj Yq ([]++ [ay (binF (bG x) j t)])=aF z)/\True)/\(aj (Znz s) (Wg s)≠ []->(Zt+Zj<=Zt+ab (Zk6 s)/\(Zt+ab (Zk6 s))*8<=Znx)/\(Zt+ab (Zk6 s)<=ab ([]++aj (Znz s) (Wg s))/\Zt<=Zt+ab (Zk6 s)/\(Z2t s)*8<=Znx)/\wr ac (Yv s)=be z/\wr ac (Yd s)=aQ z/\av s=av z/\aw s=aw z/\(Zt+(Z2t s)<=ab (aj (Zt+ab (Zk6 s)) ([]++aj (Znz s) (Wg s))++ [ay (binF (bG x) j t)])/\aj (Z2t s) (aj (Zt+ab (Zk6 s)) ([]++aj (Znz s) (Wg s))++ [ay (binF (bG x) j t)])=aF z)/\True)))))))))))):=by kernel_rfl
end
section
open Go
structure CanAdv(c:List Ins) (s:St) (below:Int):Prop where
 short:c.length<=4096
 pc0:0<=s.pc
 pc1:s.pc<c.length
 formed:∀x,c[s.pc.toNat]? =ah x->formedF x=af
 fuel0:0<=s.fuel
 fuel1:s.fuel<=1000000
 below0:0<=below
 below1:below<=64
 stack:s.stack.length<=64
def advR(j:St) (r:St×Int):St:=if r.2=0 then r.1 else{j with status:=10+r.2}
theorem Yj(j a:St):advR j (a,0)=a:=by simp[advR]
theorem Ym(j a:St) {e:Int} (h:¬e=0):advR j (a,e)={j with status:=10+e}:=by simp[advR,h]
theorem Zx7{c:List Ins} {v:Env} {s:St} {below:Int} {x:Ins} (j:c[s.pc.toNat]? =ah x) (h:¬s.fuel=0):advF c v s below=advR {s with fuel:=s.fuel-1} (Zi x v {s with fuel:=s.fuel-1} below):=by
 unfold advF;rw[jb h,j];rfl
theorem Zk7{x:Ins} (j:formedF x=af):1<=x.op/\x.op<=16:=by
 unfold formedF at j
 repeat' split at j
 all_goals simp only[fw] at j
 all_goals omega
theorem Yg{l:List Int} {i:Nat} {y:Int} (h:l[i]? =ah y) {j:Nat} (t:i=l.length-1-j):topF l j=y:=by
 unfold topF;rw[<-t,aI,h];rfl
theorem Zk8(c:List Ins) (v:Env) (s:St) (below:Int) (h:CanAdv c s below):PureC E 67 [.psl .ins c ae,envV v,stV s,.int ae .i64 below] (stV (advF c v s below)):=by
 obtain⟨hc,h0,h1,hf,f0,f1,b0,b1,hs⟩:=h;refine Za E_ok (Zb E_ok Z7j 400) ?_;rw[Zk5]; delta qBFk qBFb qBFd qBF1 qBFi qBFs qBF4 qBF2 qBFq qBFh qBFo qBFm qBF8 qBFl qBFw qBFf qBFg qBF3 qBF9 Z7p Z7o Z7n Z7m Z7l Z7k qBFz qBFx qBFv qBFu qBFt qBF6 qBFp qBFj qBFe qBFn qBFy qBFa qBFr Zfh qBF7 qBF5 qBFc Zx3 Zx4 Zx5;obtain⟨x,hx⟩:∃x,c[s.pc.toNat]? =ah x:=⟨c[s.pc.toNat]'(by omega),by simp⟩;have b3:=hf x hx;have b6:=Zk7 b3;have b5:∀k:Nat,((k:Nat):Int)=k:=λ_=>rfl;have ef:wr .i64 (s.fuel-1)=s.fuel-1:=wr64 (by omega) (by omega);have ep:wr .i64 (s.pc+1)=s.pc+1:=wr64 (by omega) (by omega)
 have eb:wr .i64 (below+(s.stack.length:Int))=below+s.stack.length:=wr64 (by omega) (by omega);have e0:wr .i64 ((s.stack.length:Int)-0)=s.stack.length:=by rw[wr64 (by omega) (by omega)];omega
 have e1:wr .i64 ((s.stack.length:Int)-1)=s.stack.length-1:=wr64 (by omega) (by omega);have a5:wr .i64 ((s.stack.length:Int)-1-0)=s.stack.length-1:=by rw[wr64 (by omega) (by omega)];omega
 have a6:wr .i64 ((s.stack.length:Int)-1-1)=s.stack.length-2:=by rw[wr64 (by omega) (by omega)];omega
 have e2:wr .i64 ((s.stack.length:Int)-2)=s.stack.length-2:=wr64 (by omega) (by omega)
 simp only[hx,cF,forall_eq',ef,ep,eb,e0,e1,a5,a6,e2,bB,List.take_length,Zz,Zs,Ys,Yt,Yu,gF,gM,fV,fX,fw,fk,bw,bD,bh,bJ,az,bZ,cm,aX,ib,Zx,Z4,ne_eq,and_true,true_and,bu,bc,false_or,or_false,jn,bi,il,iF,bV,jI,jH]
 refine⟨λh=>by unfold advF;rw[jh h];simp,λh=>⟨by omega,by omega,λU=> ?_,λU=> ?_⟩⟩
 all_goals rw[Zx7 hx h]
 ·have I:Zi x v {s with fuel:=s.fuel-1} below=({s with fuel:=s.fuel-1},200):=by unfold Zi;rw[jh U]
  rw[I];simp[advR]
 clear hx hf ef ep eb e0 e1 a5 a6 e2;obtain⟨j,a2⟩:∃j:St,j={s with fuel:=s.fuel-1}:=⟨_,rfl⟩;have q1:j.pc=s.pc:=by rw[a2]
 have q2:j.fuel=s.fuel-1:=by rw[a2]
 have q3:j.status=s.status:=by rw[a2]
 have q4:j.clause=s.clause:=by rw[a2]
 have t:j.stack=s.stack:=by rw[a2]
 rw[<-a2];have U:¬((j.stack.length:Int)<Xi x.op):=by rw[t];exact U
 clear a2;obtain⟨op,n,m⟩:=x;dsimp only at*;have a3:ag ((s.stack.length:Int)-1)=s.stack.length-1:=by omega
 have a0:ag ((s.stack.length:Int)-2)=s.stack.length-2:=by omega
 refine⟨λR=> ?_,λo1=>⟨λR=> ?_,λo2=>⟨λR=> ?_,λb9=>⟨λR=> ?_,λc0=>⟨λR=> ?_,λc1=>⟨λR=> ?_,λc2=>⟨λR=> ?_,λc3=> ?_⟩⟩⟩⟩⟩⟩⟩
 ·subst R
  refine⟨λa1=> ?_,λa1=> ?_⟩
  ·have I:Zi ⟨1,n,m⟩ v j below=(j,200):=by unfold Zi;rw[jb U];simp[t,a1]
   rw[I,Ym _ _ (by omega)];simp[q1,q2,q3,q4,t]
  ·have I:Zi ⟨1,n,m⟩ v j below=(j.pops 0 [n],0):=by unfold Zi;rw[jb U];simp[t,a1]
   rw[I,Yj];refine⟨⟨by omega,by omega⟩,by omega,by simp[bA,q1],by simp[bA,q2],by simp[bA,q3],by simp[bA,q4],?_⟩;simp[bA,t]
   all_goals first|omega|exact aN (by simp only[aO,aW,aT,bF];omega)
 ·subst R
  refine⟨λa1=> ?_,λa1=> ?_⟩
  ·have I:Zi ⟨2,n,m⟩ v j below=(j,200):=by unfold Zi;rw[jb U];simp[t,a1]
   rw[I,Ym _ _ (by omega)];simp[q1,q2,q3,q4,t]
  have b4:0<=n/\n<=15:=by simp[formedF] at b3;omega
  have a9:Zo dh ac v.has (wr ac (1*2^min n.toNat ac.bits))=0↔(v.has/2^n.toNat)%2=0:=by
   have e:∀k:Nat,k<=15->wr ac (1*2^min k ac.bits)=((2^k:Nat):Int):=by decide
   rw[e _ (by omega)];have e2:=Z6a v.has n.toNat (by omega);have e3:(Zo dh ac v.has ((2^n.toNat:Nat):Int)==0)=decide ((v.has/((2^n.toNat:Nat):Int))%2=0):=e2;rw[<-gF (a:=Zo dh ac v.has ((2^n.toNat:Nat):Int)),e3,fw];simp
  refine⟨by omega,λhb=> ?_,λhb=>⟨by omega,by omega,?_⟩⟩
  ·have I:Zi ⟨2,n,m⟩ v j below=(j,181):=by unfold Zi;rw[jb U];simp[t,a1,a9.1 hb]
   rw[I,Ym _ _ (by omega)];simp[q1,q2,q3,q4,t]
  have a8:¬(v.has/2^n.toNat)%2=0:=λh=>hb (a9.2 h);have key:∀w:Int,v.v.getD n.toNat 0=w->∃Q:Bool->Prop,((w< -9007199254740992->Q af)/\(¬w< -9007199254740992->(9007199254740992<w->Q af)/\(¬9007199254740992<w->Q ae)))/\
   (Q af->s.pc=(advR j (Zi ⟨2,n,m⟩ v j below)).pc/\s.fuel-1=(advR j (Zi ⟨2,n,m⟩ v j below)).fuel/\13=(advR j (Zi ⟨2,n,m⟩ v j below)).status/\s.clause=(advR j (Zi ⟨2,n,m⟩ v j below)).clause/\s.stack=(advR j (Zi ⟨2,n,m⟩ v j below)).stack/\(False->False))/\
   (Q ae->(0<=(s.stack.length:Int)/\(s.stack.length:Int)<=s.stack.length)/\(s.stack.length+1)*8<=140737488355328/\s.pc+1=(advR j (Zi ⟨2,n,m⟩ v j below)).pc/\s.fuel-1=(advR j (Zi ⟨2,n,m⟩ v j below)).fuel/\s.status=(advR j (Zi ⟨2,n,m⟩ v j below)).status/\s.clause=(advR j (Zi ⟨2,n,m⟩ v j below)).clause/\
    0+(s.stack.length+1)<=(s.stack++ [w]).length/\aj (s.stack.length+1) (s.stack++ [w])=(advR j (Zi ⟨2,n,m⟩ v j below)).stack):=by
   intro w hw;refine⟨λb=>(b=af↔(w< -9007199254740992\/9007199254740992<w)),⟨λh=>by simp[h],λh=>⟨λh'=>by simp[h'],λh'=>by simp;omega⟩⟩,λhQ=> ?_,λhQ=> ?_⟩
   ·have hQ:=hQ.1 rfl
    have I:Zi ⟨2,n,m⟩ v j below=(j,3):=by unfold Zi;rw[jb U];dsimp only;rw[jb (by omega),jh rfl,jb (by rw[t];exact a1),jb a8,hw,jh hQ]
    rw[I,Ym _ _ (by omega)];simp[q1,q2,q3,q4,t]
   ·have hQ:¬(w< -9007199254740992\/9007199254740992<w):=λh=>jv (hQ.2 h) (by simp)
    have I:Zi ⟨2,n,m⟩ v j below=(j.pops 0 [w],0):=by unfold Zi;rw[jb U];dsimp only;rw[jb (by omega),jh rfl,jb (by rw[t];exact a1),jb a8,hw,jb hQ]
    rw[I,Yj];refine⟨⟨by omega,by omega⟩,by omega,by simp[bA,q1],by simp[bA,q2],by simp[bA,q3],by simp[bA,q4],by simp,?_⟩;simp[bA,t]
    all_goals first|omega|exact aN (by simp only[aO,aW,aT,bF];omega)
  exact⟨λhk=>key _ (by rw[show n=0 by omega];rfl),λ_=>⟨λhk=>key _ (by rw[show n=1 by omega];rfl),λ_=>⟨λhk=>key _ (by rw[show n=2 by omega];rfl),λ_=>⟨λhk=>key _ (by rw[show n=3 by omega];rfl),λ_=>⟨λhk=>key _ (by rw[show n=4 by omega];rfl),λ_=>⟨λhk=>key _ (by rw[show n=5 by omega];rfl),λ_=>⟨λhk=>key _ (by rw[show n=6 by omega];rfl),λ_=>⟨λhk=>key _ (by rw[show n=7 by omega];rfl),λ_=>⟨λhk=>key _ (by rw[show n=8 by omega];rfl),λ_=>⟨λhk=>key _ (by rw[show n=9 by omega];rfl),λ_=>⟨λhk=>key _ (by rw[show n=10 by omega];rfl),λ_=>⟨λhk=>key _ (by rw[show n=11 by omega];rfl),λ_=>⟨λhk=>key _ (by rw[show n=12 by omega];rfl),λ_=>⟨λhk=>key _ (by rw[show n=13 by omega];rfl),λ_=>⟨λhk=>key _ (by rw[show n=14 by omega];rfl),λ_=>⟨λhk=>key _ (by rw[show n=15 by omega];rfl),λ_=>js⟩⟩⟩⟩⟩⟩⟩⟩⟩⟩⟩⟩⟩⟩⟩⟩
 ·subst R
  have hl:1<=(s.stack.length:Int):=by rw[t] at U;simp[Xi] at U;omega
  refine⟨by omega,by omega,λa ha=> ?_⟩;have t0:topF j.stack 0=a:=Yg (by rw[t];exact ha) (by rw[t];omega);have I:Zi ⟨12,n,m⟩ v j below=(j.pops 1 [if n<=a/\a<=m then 1 else 0],0):=by unfold Zi;rw[jb U];simp[t0]
  rw[I,Yj];refine⟨λa4=>⟨by omega,by omega,λb hb=> ?_⟩,λa4=> ?_⟩
  ·rw[ha] at hb;cases hb
   refine⟨λhm=> ?_,λhm=> ?_⟩
   all_goals
    refine⟨⟨by omega,by omega⟩,by simp only[aW];omega,by simp[bA,q1],by simp[bA,q2],by simp[bA,q3],by simp[bA,q4],?_⟩;rw[a3];simp[bA,t,a4,hm]
    all_goals first|omega|exact aN (by simp only[aO,aW,aT,bF];omega)
  ·refine⟨⟨by omega,by omega⟩,by simp only[aW];omega,by simp[bA,q1],by simp[bA,q2],by simp[bA,q3],by simp[bA,q4],?_⟩
   rw[a3];simp[bA,t,a4]
   all_goals first|omega|exact aN (by simp only[aO,aW,aT,bF];omega)
 ·subst R
  have hl:1<=(s.stack.length:Int):=by rw[t] at U;simp[Xi] at U;omega
  refine⟨by omega,by omega,λa ha=>⟨⟨by omega,by omega⟩,?_⟩⟩;have t0:topF j.stack 0=a:=Yg (by rw[t];exact ha) (by rw[t];omega);have I:Zi ⟨13,n,m⟩ v j below=({j.pops 1 [] with pc:=if a=0 then n else j.pc+1},0):=by unfold Zi;rw[jb U];simp[t0]
  rw[I,Yj,a3];refine⟨λhz=> ?_,λhz=> ?_⟩
  all_goals simp[bA,q1,q2,q3,q4,t,hz]
 ·subst R
  have I:Zi ⟨14,n,m⟩ v j below=({j with pc:=n},0):=by unfold Zi;rw[jb U];simp
  rw[I,Yj];simp[q1,q2,q3,q4,t]
 ·subst R
  have I:Zi ⟨15,n,m⟩ v j below=({j with status:=1,clause:=n},0):=by unfold Zi;rw[jb U];simp
  rw[I,Yj];simp[q1,q2,q3,q4,t]
 ·subst R
  have I:Zi ⟨16,n,m⟩ v j below=(j,180):=by unfold Zi;rw[jb U];simp
  rw[I,Ym _ _ (by omega)];simp[q1,q2,q3,q4,t]
 have hl:2<=(s.stack.length:Int):=by
  rw[t] at U;have e:Xi op=2:=by unfold Xi;rw[jb (by omega),jh (by omega)]
  rw[e] at U;omega
 refine⟨λR=> ?_,λo3=>⟨λR=> ?_,λo4=>⟨λR=> ?_,λo5=>⟨λR=> ?_,λo6=>⟨λR=> ?_,λo7=>⟨λR=> ?_,λo8=>⟨λR=> ?_,λo9=>⟨λR=> ?_,λb7=>⟨λR=> ?_,λb8=>by omega⟩⟩⟩⟩⟩⟩⟩⟩⟩
 ·obtain rfl:op=3:=by omega
  clear R;refine⟨by omega,by omega,λa ha=>⟨by omega,by omega,λb hb=> ?_⟩⟩;have t1:topF j.stack 1=a:=Yg (by rw[t];exact ha) (by rw[t];omega);have t0:topF j.stack 0=b:=Yg (by rw[t];exact hb) (by rw[t];omega);have I:Zi ⟨3,n,m⟩ v j below=if(addF a b).2≠0 then(j,(addF a b).2) else(j.pops 2 [(addF a b).1],0):=by
   unfold Zi;rw[jb U];simp[t0,t1,binF]
  have hw:wr .i64 (10+(addF a b).2)=10+(addF a b).2:=by
   have:=Zp9 a b;rw[wr64 (by omega) (by omega)]
  refine⟨λJ=>⟨λ_=> ?_,λh'=>jv h' J⟩,λJ=> ?_⟩
  ·rw[I,jh J,Ym _ _ J,hw];simp[q1,q2,q3,q4,t]
  ·rw[I,jb (by simp[J]),Yj]
   refine⟨⟨by omega,by omega⟩,by simp only[aW];omega,by simp[bA,q1],by simp[bA,q2],by simp[bA,q3],by simp[bA,q4],?_⟩;rw[a0];simp[bA,t]
   all_goals first|omega|exact aN (by simp only[aO,aW,aT,bF];omega)
 ·obtain rfl:op=4:=by omega
  clear R;refine⟨by omega,by omega,λa ha=>⟨by omega,by omega,λb hb=> ?_⟩⟩;have t1:topF j.stack 1=a:=Yg (by rw[t];exact ha) (by rw[t];omega);have t0:topF j.stack 0=b:=Yg (by rw[t];exact hb) (by rw[t];omega);have I:Zi ⟨4,n,m⟩ v j below=if(subF a b).2≠0 then(j,(subF a b).2) else(j.pops 2 [(subF a b).1],0):=by
   unfold Zi;rw[jb U];simp[t0,t1,binF]
  have hw:wr .i64 (10+(subF a b).2)=10+(subF a b).2:=by
   have:=Zqa a b;rw[wr64 (by omega) (by omega)]
  refine⟨λJ=>⟨λ_=> ?_,λh'=>jv h' J⟩,λJ=> ?_⟩
  ·rw[I,jh J,Ym _ _ J,hw];simp[q1,q2,q3,q4,t]
  ·rw[I,jb (by simp[J]),Yj]
   refine⟨⟨by omega,by omega⟩,by simp only[aW];omega,by simp[bA,q1],by simp[bA,q2],by simp[bA,q3],by simp[bA,q4],?_⟩;rw[a0];simp[bA,t]
   all_goals first|omega|exact aN (by simp only[aO,aW,aT,bF];omega)
 ·obtain rfl:op=5:=by omega
  clear R;refine⟨by omega,by omega,λa ha=>⟨by omega,by omega,λb hb=> ?_⟩⟩;have t1:topF j.stack 1=a:=Yg (by rw[t];exact ha) (by rw[t];omega);have t0:topF j.stack 0=b:=Yg (by rw[t];exact hb) (by rw[t];omega);have I:Zi ⟨5,n,m⟩ v j below=if(mulF a b).2≠0 then(j,(mulF a b).2) else(j.pops 2 [(mulF a b).1],0):=by
   unfold Zi;rw[jb U];simp[t0,t1,binF]
  have hw:wr .i64 (10+(mulF a b).2)=10+(mulF a b).2:=by
   have:=Zqb a b;rw[wr64 (by omega) (by omega)]
  refine⟨λJ=>⟨λ_=> ?_,λh'=>jv h' J⟩,λJ=> ?_⟩
  ·rw[I,jh J,Ym _ _ J,hw];simp[q1,q2,q3,q4,t]
  ·rw[I,jb (by simp[J]),Yj]
   refine⟨⟨by omega,by omega⟩,by simp only[aW];omega,by simp[bA,q1],by simp[bA,q2],by simp[bA,q3],by simp[bA,q4],?_⟩;rw[a0];simp[bA,t]
   all_goals first|omega|exact aN (by simp only[aO,aW,aT,bF];omega)
 ·obtain rfl:op=6:=by omega
  clear R;refine⟨by omega,by omega,λa ha=>⟨by omega,by omega,λb hb=> ?_⟩⟩;have t1:topF j.stack 1=a:=Yg (by rw[t];exact ha) (by rw[t];omega);have t0:topF j.stack 0=b:=Yg (by rw[t];exact hb) (by rw[t];omega);have I:Zi ⟨6,n,m⟩ v j below=(j.pops 2 [min a b],0):=by
   unfold Zi;rw[jb U];simp[t0,t1,binF]
  rw[I,Yj];refine⟨⟨by omega,by omega⟩,by simp only[aW];omega,by simp[bA,q1],by simp[bA,q2],by simp[bA,q3],by simp[bA,q4],?_⟩;rw[a0];simp[bA,t]
  all_goals first|omega|exact aN (by simp only[aO,aW,aT,bF];omega)
 ·obtain rfl:op=7:=by omega
  clear R;refine⟨by omega,by omega,λa ha=>⟨by omega,by omega,λb hb=> ?_⟩⟩;have t1:topF j.stack 1=a:=Yg (by rw[t];exact ha) (by rw[t];omega);have t0:topF j.stack 0=b:=Yg (by rw[t];exact hb) (by rw[t];omega);have I:Zi ⟨7,n,m⟩ v j below=(j.pops 2 [max a b],0):=by
   unfold Zi;rw[jb U];simp[t0,t1,binF]
  rw[I,Yj];refine⟨⟨by omega,by omega⟩,by simp only[aW];omega,by simp[bA,q1],by simp[bA,q2],by simp[bA,q3],by simp[bA,q4],?_⟩;rw[a0];simp[bA,t]
  all_goals first|omega|exact aN (by simp only[aO,aW,aT,bF];omega)
 ·obtain rfl:op=8:=by omega
  clear R;refine⟨by omega,by omega,λa ha=>⟨by omega,by omega,λb hb=> ?_⟩⟩;have t1:topF j.stack 1=a:=Yg (by rw[t];exact ha) (by rw[t];omega);have t0:topF j.stack 0=b:=Yg (by rw[t];exact hb) (by rw[t];omega);have I:Zi ⟨8,n,m⟩ v j below=if(divF a b 8).2≠0 then(j,(divF a b 8).2) else(j.pops 2 [(divF a b 8).1],0):=by
   unfold Zi;rw[jb U];simp[t0,t1,binF]
  have hw:wr .i64 (10+(divF a b 8).2)=10+(divF a b 8).2:=by
   have:=Zae a b 8;rw[wr64 (by omega) (by omega)]
  refine⟨λJ=>⟨λ_=> ?_,λh'=>jv h' J⟩,λJ=> ?_⟩
  ·rw[I,jh J,Ym _ _ J,hw];simp[q1,q2,q3,q4,t]
  ·rw[I,jb (by simp[J]),Yj]
   refine⟨⟨by omega,by omega⟩,by simp only[aW];omega,by simp[bA,q1],by simp[bA,q2],by simp[bA,q3],by simp[bA,q4],?_⟩;rw[a0];simp[bA,t]
   all_goals first|omega|exact aN (by simp only[aO,aW,aT,bF];omega)
 ·obtain rfl:op=9:=by omega
  clear R;refine⟨by omega,by omega,λa ha=>⟨by omega,by omega,λb hb=> ?_⟩⟩;have t1:topF j.stack 1=a:=Yg (by rw[t];exact ha) (by rw[t];omega);have t0:topF j.stack 0=b:=Yg (by rw[t];exact hb) (by rw[t];omega);have I:Zi ⟨9,n,m⟩ v j below=if(divF a b 9).2≠0 then(j,(divF a b 9).2) else(j.pops 2 [(divF a b 9).1],0):=by
   unfold Zi;rw[jb U];simp[t0,t1,binF]
  have hw:wr .i64 (10+(divF a b 9).2)=10+(divF a b 9).2:=by
   have:=Zae a b 9;rw[wr64 (by omega) (by omega)]
  refine⟨λJ=>⟨λ_=> ?_,λh'=>jv h' J⟩,λJ=> ?_⟩
  ·rw[I,jh J,Ym _ _ J,hw];simp[q1,q2,q3,q4,t]
  ·rw[I,jb (by simp[J]),Yj]
   refine⟨⟨by omega,by omega⟩,by simp only[aW];omega,by simp[bA,q1],by simp[bA,q2],by simp[bA,q3],by simp[bA,q4],?_⟩;rw[a0];simp[bA,t]
   all_goals first|omega|exact aN (by simp only[aO,aW,aT,bF];omega)
 ·obtain rfl:op=10:=by omega
  clear R;refine⟨by omega,by omega,λa ha=>⟨by omega,by omega,λb hb=> ?_⟩⟩;have t1:topF j.stack 1=a:=Yg (by rw[t];exact ha) (by rw[t];omega);have t0:topF j.stack 0=b:=Yg (by rw[t];exact hb) (by rw[t];omega);have I:Zi ⟨10,n,m⟩ v j below=if(divF a b 10).2≠0 then(j,(divF a b 10).2) else(j.pops 2 [(divF a b 10).1],0):=by
   unfold Zi;rw[jb U];simp[t0,t1,binF]
  have hw:wr .i64 (10+(divF a b 10).2)=10+(divF a b 10).2:=by
   have:=Zae a b 10;rw[wr64 (by omega) (by omega)]
  refine⟨λJ=>⟨λ_=> ?_,λh'=>jv h' J⟩,λJ=> ?_⟩
  ·rw[I,jh J,Ym _ _ J,hw];simp[q1,q2,q3,q4,t]
  ·rw[I,jb (by simp[J]),Yj]
   refine⟨⟨by omega,by omega⟩,by simp only[aW];omega,by simp[bA,q1],by simp[bA,q2],by simp[bA,q3],by simp[bA,q4],?_⟩;rw[a0];simp[bA,t]
   all_goals first|omega|exact aN (by simp only[aO,aW,aT,bF];omega)
 ·obtain rfl:op=11:=by omega
  clear R;refine⟨by omega,by omega,λa ha=>⟨by omega,by omega,λb hb=>⟨λa7=> ?_,λa7=> ?_⟩⟩⟩
  all_goals
   have t1:topF j.stack 1=a:=Yg (by rw[t];exact ha) (by rw[t];omega);have t0:topF j.stack 0=b:=Yg (by rw[t];exact hb) (by rw[t];omega);have I:Zi ⟨11,n,m⟩ v j below=(j.pops 2 [if a<b then 1 else 0],0):=by
    unfold Zi;rw[jb U];simp[t0,t1,binF]
   rw[I,Yj];refine⟨⟨by omega,by omega⟩,by simp only[aW];omega,by simp[bA,q1],by simp[bA,q2],by simp[bA,q3],by simp[bA,q4],?_⟩;rw[a0];simp[bA,t,a7]
   all_goals first|omega|exact aN (by simp only[aO,aW,aT,bF];omega)
end
section
open Go
noncomputable def Sadv:Sum thy:=sumP (dL4 Z26 dEnv dSt dI) (λx=>CanAdv x.1 x.2.2.1 x.2.2.2.1) λx=>stV (advF x.1 x.2.1 x.2.2.1 x.2.2.2.1)
def A26:Fr thy->Hp thy->Nat->Ann thy:=λT h i=>{X:=LX,fr:=λx=> [(0,T 0),(1,T 1),(5,.int ae .i64 x.k)],bl:=λx=> [],src:=λ_=> [],md:= [],ih:=i,M:=i+30,meas:=λx=>x.r}
noncomputable def F6:Fns thy:=addL (addS F5 67 Sadv) 35 4 A26 E
theorem Zyk:FnsOk E F6:=Zn E_ok (Zc Z7j (Yc E_ok (Ze (f:=67) rfl) λx h=>Zk8 x.1 x.2.1 x.2.2.1 x.2.2.2.1 h)) _ _ _
abbrev qBH3:=(0:Int)
abbrev qBH1(j:St):=(qBH3=be j/\qBH3=aQ j/\qBH3=av j/\qBH3=aw j/\aF j= []/\True)
abbrev qBH2(j:List Ins) (t:Env) (I:St) (J:St):=(be (advF j t I qBH3)=be J/\aQ (advF j t I qBH3)=aQ J/\av (advF j t I qBH3)=av J/\aw (advF j t I qBH3)=aw J/\(aF (advF j t I qBH3)=aF J/\(ae=af->ae=af))/\True)
theorem Zyl(c:List Ins) (v:Env) (s:St) (z:St) (e:Int):Zk E F6 (vc E F6 400) 44 [.psl .ins c ae,envV v,stV s] hp0 0 (λr=>ret E (patch hp0 0 r) r.v (.tup [stV z,.int ae .i64 e]))=(
 ((av s !=qBH3)=af->(qBH1 z)/\211=e/\True)/\((av s !=qBH3)=ae->True/\((aJ (verF c) !=qBH3)=af->((aJ (verF c) !=qBH3)=af->(qBH1 z)/\aJ (verF c)=e/\True)/\((aJ (verF c) !=qBH3)=ae->CanAdv c s qBH3/\(qBH2 c v s z)/\qBH3=e/\True))/\((aJ (verF c) !=qBH3)=ae->∃(Q:Bool->Prop),((decide (be s<qBH3)=af->Q af)/\(decide (be s<qBH3)=ae->(decide (be s>=(↑(ab c):Int))=af->Q af)/\(decide (be s>=(↑(ab c):Int))=ae->(decide (aQ s<qBH3)=af->Q af)/\(decide (aQ s<qBH3)=ae->(decide (aQ s>32768)=af->Q af)/\(decide (aQ s>32768)=ae->((aw s !=qBH3)=af->Q af)/\((aw s !=qBH3)=ae->(decide ((↑(ab (aF s)):Int)>64)=af->Q af)/\(decide ((↑(ab (aF s)):Int)>64)=ae->Q ae)))))))/\(Q af->(qBH1 z)/\1=e/\True)/\(Q ae->CanAdv c s qBH3/\(qBH2 c v s z)/\qBH3=e/\True)))):=by kernel_rfl
theorem Zte(f:Int) (z:St) (e:Int):Zk E F6 (vc E F6 400) 43 [.int ae .i64 f] hp0 0 (λr=>ret E (patch hp0 0 r) r.v (.tup [stV z,.int ae .i64 e]))=(
∃(Q:Bool->Prop),((decide (f<0)=af->Q af)/\(decide (f<0)=ae->(decide (f>32768)=af->Q af)/\(decide (f>32768)=ae->Q ae)))/\(Q af->(0=be z/\0=aQ z/\0=av z/\0=aw z/\aF z= []/\True)/\1=e/\True)/\(Q ae->(0=be z/\f=aQ z/\0=av z/\0=aw z/\aF z= []/\True)/\0=e/\True)):=by kernel_rfl
theorem Zof(s:St) (a b e:Int):Zk E F6 (vc E F6 400) 23 [stV s] hp0 0 (λr=>ret E (patch hp0 0 r) r.v (.tup [.int ae .i64 a,.int ae .i64 b,.int ae .i64 e]))=(
((av s==1)=af->(decide ((↑(ab (aF s)):Int)>0)=af->0<=wr ac ((↑(ab (aF s)):Int)-1)/\wr ac ((↑(ab (aF s)):Int)-1)+1<=(↑(ab (aF s)):Int)/\∀(x:Int),(aF s)[ag (wr ac ((↑(ab (aF s)):Int)-1))]? =ah x->x=a/\aw s=b/\0=e/\True)/\(decide ((↑(ab (aF s)):Int)>0)=ae->(decide (av s>10)=af->0=a/\0=b/\wr ac (av s-10)=e/\True)/\(decide (av s>10)=ae->0=a/\0=b/\1=e/\True)))/\((av s==1)=ae->(decide (av s>10)=af->0=a/\0=b/\wr ac (av s-10)=e/\True)/\(decide (av s>10)=ae->0=a/\0=b/\1=e/\True))):=by kernel_rfl
theorem Zlc(s:St) (a b e:Int):Zk E F6 (vc E F6 400) 26 [stV s] hp0 0 (λr=>ret E (patch hp0 0 r) r.v (.tup [.int ae .i64 a,.int ae .i64 b,.int ae .i64 e]))=(
∃(Q:Bool->Prop),(((av s==1)=af->(decide ((↑(ab (aF s)):Int)>0)=af->Q af)/\(decide ((↑(ab (aF s)):Int)>0)=ae->Q ae))/\((av s==1)=ae->Q ae))/\(Q af->0<=wr ac ((↑(ab (aF s)):Int)-1)/\wr ac ((↑(ab (aF s)):Int)-1)+1<=(↑(ab (aF s)):Int)/\∀(x:Int),(aF s)[ag (wr ac ((↑(ab (aF s)):Int)-1))]? =ah x->x=a/\aw s=b/\0=e/\True)/\(Q ae->(decide (av s>10)=af->0=a/\0=b/\wr ac (av s-10)=e/\True)/\(decide (av s>10)=ae->0=a/\0=b/\1=e/\True))):=by kernel_rfl
abbrev qBH4(j:St):=(↑(ab (aF j)):Int)
abbrev qBH5(j:St):=(aF j=aF j/\(ae=af->ae=af))
abbrev qBH6(j:LX):=(↑(fE j):Int)
theorem Zym(a b:St) (q:Bool):Zk E F6 (vc E F6 400) 15 [stV a,stV b] hp0 0 (λr=>ret E (patch hp0 0 r) r.v (.bool ae q))=(
 ((be a==be b)=af->((aQ a==aQ b)=af->((av a==av b)=af->((aw a==aw b)=af->(((qBH4 a) !=(qBH4 b))=af->ae=q)/\(((qBH4 a) !=(qBH4 b))=ae->∃(R:LX->Prop),(∃(x:LX),R x/\af=af/\((qBH5 a)/\(qBH5 b)/\0=(qBH6 x)/\True)/\True)/\∀(x:LX),R x->(decide ((qBH6 x)<(qBH4 a))=af->0<=(qBH6 x)/\(qBH6 x)+1<=(qBH4 a)/\∀(t:Int),(aF a)[ag (qBH6 x)]? =ah t->0<=(qBH6 x)/\(qBH6 x)+1<=(qBH4 b)/\∀(I:Int),(aF b)[ag (qBH6 x)]? =ah I->((t !=I)=af->ae=q)/\((t !=I)=ae->∃(j:LX),R j/\j.2+1<=x.2/\af=af/\((qBH5 a)/\(qBH5 b)/\wr ac ((qBH6 x)+1)=(qBH6 j)/\True)/\True))/\(decide ((qBH6 x)<(qBH4 a))=ae->af=q)))/\((aw a==aw b)=ae->ae=q))/\((av a==av b)=ae->ae=q))/\((aQ a==aQ b)=ae->ae=q))/\((be a==be b)=ae->ae=q)):=by kernel_rfl
end
section
open Go
theorem Z3a{c:List Ins} {D:List Int} {s:St} (j:Safe c D) (h:Good c D s) (I:s.fuel<=32768):CanAdv c s 0:=
 ⟨j.short,h.pc,h.lt,λx t=>j.formed _ _ t,h.fuel,by omega,eu _,by omega,h.small j⟩
theorem Ztk(f:Int):PureC E 43 [.int ae .i64 f] (.tup [stV (Zb8 f).1,.int ae .i64 (Zb8 f).2]):=by
 refine Za E_ok (Zb E_ok Zyk 400) ?_;rw[Zte];simp only[Zz,Zs,Ys,Yt,Yu,gF,gM,fV,fX,fw,fk,bw,bD,bh,bJ,az,bZ,cm,aX,ib,Zx,Z4,ne_eq,and_true,true_and,bu,bc,false_or,or_false,jn,bi,il,iF,bV,jH,jI]
 refine⟨λb=>(b=af↔(f<0\/32768<f)),⟨λh=>by simp[h],λh=>⟨λt=>by simp[t],λt=>by simp;omega⟩⟩,λj=> ?_,λj=> ?_⟩
 ·have j:=j.1 rfl
  unfold Zb8;rw[jh j];simp[eX]
 ·have j:¬(f<0\/32768<f):=λh=>jv (j.2 h) (by simp)
  unfold Zb8;rw[jb j];simp[St.start]
theorem Zyq(c:List Ins) (v:Env) (s:St):PureC E 44 [.psl .ins c ae,envV v,stV s] (.tup [stV (Uq c v s).1,.int ae .i64 (Uq c v s).2]):=by
 refine Za E_ok (Zb E_ok Zyk 400) ?_;rw[Zyl]; delta qBH3 qBH1 qBH2;simp only[Zz,Zs,Ys,Yt,Yu,gF,gM,fV,fX,fw,fk,bw,bD,bh,bJ,az,bZ,cm,aX,ib,Zx,Z4,ne_eq,and_true,true_and,bu,bc,false_or,or_false,jn,bi,il,iF,bV,jH,jI]
 refine⟨λJ=> ?_,λJ=>⟨λt=>⟨λ_=> ?_,λh=>jv h t⟩,λt=> ?_⟩⟩
 ·have j:Wy c s 0=211:=by unfold Wy;rw[jh J]
  unfold Uq;rw[j];simp[eX]
 ·have j:Wy c s 0=(verF c).2:=by unfold Wy;rw[jb (by simpa using J),jh t]
  unfold Uq;rw[j,jh t];simp[eX]
 have j:Wy c s 0=if s.pc<0\/c.length<=s.pc\/s.fuel<0\/32768<s.fuel\/s.clause≠0\/(0:Int)<0\/64<(0:Int)\/64-(0:Int)<s.stack.length then 1 else 0:=by
  unfold Wy;rw[jb (by simpa using J),jb (by simpa using t)]
 refine⟨λb=>(b=af↔(s.pc<0\/c.length<=s.pc\/s.fuel<0\/32768<s.fuel\/s.clause≠0\/64<(s.stack.length:Int))),?_,λI=> ?_,λI=> ?_⟩
 ·repeat' (first|(refine aK ?_ ?_)|(intro h))
  all_goals simp only[eq_self,true_iff,bc,false_iff]
  all_goals omega
 ·have I:=I.1 rfl
  rw[jh (by omega)] at j;unfold Uq;rw[j];simp[eX]
 ·have I:¬(s.pc<0\/c.length<=s.pc\/s.fuel<0\/32768<s.fuel\/s.clause≠0\/64<(s.stack.length:Int)):=λh=>jv (I.2 h) (by simp)
  rw[jb (by omega)] at j;obtain⟨D,R⟩:=Wf t;refine⟨⟨R.short,by omega,by omega,λx U=>R.formed _ _ U,by omega,by omega,by omega,by omega,by omega⟩,?_⟩;unfold Uq;rw[j];simp
theorem Zoo(s:St) (h:s.stack.length<=1000000):PureC E 23 [stV s] (.tup [.int ae .i64 (Zw s).1,.int ae .i64 (Zw s).2.1,.int ae .i64 (Zw s).2.2]):=by
 refine Za E_ok (Zb E_ok Zyk 400) ?_;rw[Zof];have J:wr .i64 ((s.stack.length:Int)-1)=s.stack.length-1:=wr64 (by omega) (by omega);have R:wr .i64 (s.status-10)=ac.wrap (s.status-10):=rfl
 simp only[Zz,Zs,Ys,Yt,Yu,gF,gM,fV,fX,fw,fk,bw,bD,bh,bJ,az,bZ,cm,aX,ib,Zx,Z4,ne_eq,and_true,true_and,bu,bc,false_or,or_false,jn,bi,il,iF,bV,jH,jI,J,R];unfold Zw
 refine⟨λt=>⟨λU=>⟨by omega,by omega,λx I=> ?_⟩,λU=>⟨λj=>by omega,λj=> ?_⟩⟩,λt=>⟨λj=> ?_,λj=> ?_⟩⟩
 ·rw[show ag ((s.stack.length:Int)-1)=s.stack.length-1 by omega] at I
  rw[jh ⟨t,by omega⟩];simp[aI,I]
 ·rw[jb (by omega),jb (by omega)];simp
 ·rw[jb (by omega),jh j];simp
 ·rw[jb (by omega),jb (by omega)];simp
theorem Zlj(s:St) (h:s.stack.length<=1000000):PureC E 26 [stV s] (.tup [.int ae .i64 (Zw s).1,.int ae .i64 (Zw s).2.1,.int ae .i64 (Zw s).2.2]):=by
 refine Za E_ok (Zb E_ok Zyk 400) ?_;rw[Zlc];have J:wr .i64 ((s.stack.length:Int)-1)=s.stack.length-1:=wr64 (by omega) (by omega);have R:wr .i64 (s.status-10)=ac.wrap (s.status-10):=rfl
 simp only[Zz,Zs,Ys,Yt,Yu,gF,gM,fV,fX,fw,fk,bw,bD,bh,bJ,az,bZ,cm,aX,ib,Zx,Z4,ne_eq,and_true,true_and,bu,bc,false_or,or_false,jn,bi,il,iF,bV,jH,jI,J,R];refine⟨λb=>(b=af↔(s.status=1/\0<(s.stack.length:Int))),?_,λj=>⟨?_,?_,λx I=> ?_⟩,λj=> ?_⟩
 ·repeat' (first|(refine aK ?_ ?_)|(intro h))
  all_goals simp only[eq_self,true_iff,bc,false_iff]
  all_goals omega
 ·have:=j.1 rfl;omega
 ·omega
 ·have j:=j.1 rfl
  rw[show ag ((s.stack.length:Int)-1)=s.stack.length-1 by omega] at I;unfold Zw;rw[jh ⟨j.1,by omega⟩];simp[aI,I]
 ·have j:¬(s.status=1/\0<(s.stack.length:Int)):=λh=>jv (j.2 h) (by simp)
  unfold Zw;rw[jb (by omega)];refine⟨λt=> ?_,λt=> ?_⟩
  ·rw[jh t];simp
  ·rw[jb t];simp
theorem Zyr(a b:St) (h:a.stack.length<=1000000):PureC E 15 [stV a,stV b] (.bool ae (Zkq a b)):=by
 refine Za E_ok (Zb E_ok Zyk 400) ?_;rw[Zym]; delta qBH4 qBH5 qBH6;simp only[Zz,Zs,Ys,Yt,Yu,gF,gM,fV,fX,fw,fk,bw,bD,bh,bJ,az,bZ,cm,aX,ib,Zx,Z4,ne_eq,and_true,true_and,bu,bc,false_or,or_false,jn,bi,il,iF,bV,jH,jI,bB];unfold Zkq
 refine⟨λj=>⟨λt=>⟨λI=>⟨λJ=>⟨λh5=> ?_,λh5=> ?_⟩,λJ=>by simp[J]⟩,λI=>by simp[I]⟩,λt=>by simp[t]⟩,λj=>by simp[j]⟩
 ·symm
  rw[fk];rintro⟨_,_,_,_,e⟩;exact h5 (by rw[e])
 refine⟨λx=>x.k+x.r=a.stack.length/\a.stack.take x.k=b.stack.take x.k,⟨⟨0,a.stack.length,[],0⟩,by simp,by simp⟩,λx hR=>⟨λa1=>⟨by omega,by omega,λy R=>⟨by omega,by omega,λz hz=>⟨λU=> ?_,λU=> ?_⟩⟩⟩,λa0=> ?_⟩⟩
 ·symm
  rw[fk];rintro⟨_,_,_,_,e⟩;rw[e,hz] at R;exact U (aU R).symm
 ·obtain⟨hk,ht⟩:=hR
  refine⟨⟨x.k+1,x.r-1,[],0⟩,⟨by show x.k+1+(x.r-1)=_;omega,?_⟩,by show x.r-1+1<=x.r;omega,?_⟩
  ·show a.stack.take (x.k+1)=b.stack.take (x.k+1)
   obtain⟨ha,rfl⟩:=ar.1 R;obtain⟨hb,rfl⟩:=ar.1 hz;rw[dV ha,dV hb,ht,U]
  ·rw[wr64 (by omega) (by omega)];simp
 ·obtain⟨hk,ht⟩:=hR
  rw[aN (by omega),aN (by omega)] at ht;symm;rw[fw];exact⟨j,t,I,J,ht⟩
end
section
open Go.ChangeShapes Go.WideShapes Go.ChangeAt Go.RowKit
section
variable {H:Type} {enc:TypeId × Value->H} {w:World} {spare:Nat->Bool} {held:Bool}
theorem Zgx:Tryz.prog.cellsOf 3=1:=by kernel_rfl
theorem Zvv:Tryz.prog.cellsOf 24=16:=by kernel_rfl
theorem Zm2:Tryz.prog.cellsOf 26=17:=by kernel_rfl
theorem Zm3:Tryz.prog.cellsOf 81=3:=by kernel_rfl
theorem Yb0{cs:List Value} (h:cs.length=3):∃a b c,cs= [a,b,c]:=by
 match cs,h with
 | [a,b,c],_=>exact⟨a,b,c,rfl⟩
theorem Zez(fuel:Nat) (cs:List Value) (x:DataW H×List MemPlace) (h:dA enc Tryz.prog w 0 spare held fuel 81 cs=ah x):∃a:Ins,∀(j:Nat) sv,(E.enc Th.ins a)[j]? =ah sv->∃v,cs[j]? =ah v/\Den E σ0 (gTop w) sv v:=by
 obtain⟨xs,n,rfl,_,a0,a1,U⟩:=fF Tryz.underlying81 h;rw[Zm3] at a0;obtain⟨a,b,c,rfl⟩:=Yb0 a0;have a2:xs.length=3:=by simpa using a1
 have I:=U 0 _ rfl;have J:=U 1 _ rfl;have R:=U 2 _ rfl;rw[aq (by omega)] at I J R;simp only[dY,dL,dN,Zgx,eO,List.drop_succ_cons,jD,ko] at I J R;obtain⟨p,hp,_⟩:=Ve Tryz.underlying3 I;obtain⟨q,hq,_⟩:=Ve Tryz.underlying3 J;obtain⟨r,hr,_⟩:=Ve Tryz.underlying3 R;simp only[List.cons.injEq,and_true] at hp hq hr;subst hp hq hr;refine⟨⟨p,q,r⟩,λj sv t=> ?_⟩
 match j,t with
 |0,t=>cases t;exact⟨_,rfl,.int _ _ _⟩
 |1,t=>cases t;exact⟨_,rfl,.int _ _ _⟩
 |2,t=>cases t;exact⟨_,rfl,.int _ _ _⟩
set_option maxRecDepth 100000 in
theorem Zvw{r:Reach} {t:Nat} {v:Value} {d:DataW H} {ps:List MemPlace} (R:Value.okWide Tryz.prog w r t 23 v) (h:kN enc Tryz.prog w 0 spare held 23 v d ps):∃l:List Ins,Den E σ0 (gTop w) (.psl Th.ins l ae) v:=by
 obtain⟨a,len,cap,rfl⟩:=okWide_slice Tryz.underlying23 R;obtain⟨fuel,h⟩:=h;obtain⟨sv,l,j,J⟩:=Za8 (E:=E) (th:=Th.ins) (λ_=>rfl) (by decide) Tryz.underlying23 Zm3 h (λn I y U=>Zez n I y U);have j: [bI a len cap]= [sv]:=j;cases j;exact⟨l,J⟩
set_option maxHeartbeats 1000000 in
theorem Z1k{v:Value} {d:DataW H} {ps:List MemPlace} (h:kN enc Tryz.prog w 0 spare held 26 v d ps):∃x:Env,Den E σ0 (gTop w) (envV x) v:=by
 obtain⟨fuel,h⟩:=h;obtain⟨xs,n,rfl,_,hl,a2,hf⟩:=fF Tryz.underlying26 h;rw[Zm2] at hl;have hv:=Zdf hl (by decide);generalize v.cells.toList=cs at*;have R:=hf 0 _ rfl;have U:=hf 1 _ rfl;have a3:xs.length=2:=by simpa using a2
 rw[aq (by omega)] at R U;simp only[dY,dL,dN,Zgx,Zvv,eO] at R U;obtain⟨p,hp,ip⟩:=Ve Tryz.underlying3 R;obtain⟨ys,m,rfl,_,_,a4,hg⟩:=DataW.trod_array Tryz.underlying24 U;have a1:∀i,i<16->∃n:Int,cs[1+i]? =ah (.int .i64 n):=by
  intro i hi;have a0:=hg i hi;rw[aq (by omega)] at a0;simp only[dY,dL,dN,Zgx,Nat.mul_one] at a0;obtain⟨n,hn,_⟩:=Ve Tryz.underlying3 a0;refine⟨n,?_⟩;have J:((((cs.drop 1).take 16).drop i).take 1)[0]? =ah (.int .i64 n):=by rw[hn];rfl
  rw[bU,jh (by decide),cL,bU,jh (by omega),cL] at J
  simpa using J
 have hp0:cs[0]? =ah (.int .i64 p):=by
  have J:((cs.take 1))[0]? =ah (.int .i64 p):=by rw[hp];rfl
  rw[bU,jh (by decide)] at J;exact J
 obtain⟨f,I⟩:=Go.Deep.choose_lt (α:=Int) a1;rw[hv];refine⟨⟨p,f 0,f 1,f 2,f 3,f 4,f 5,f 6,f 7,f 8,f 9,f 10,f 11,f 12,f 13,f 14,f 15⟩,.agg (λj=>cs.getD j undef) (by simp[hl]) (λj t=> ?_) (λj sv t=> ?_)⟩
 ·have t:j<17:=t
  rw[List.getElem?_toArray,aI,aq (by omega)];rfl
 ·match j,t with
  |0,t=>cases t;show Den E σ0 (gTop w) (.int ae .i64 p) _;rw[aI,hp0];exact .int _ _ _
  |1,t=>cases t;show Den E σ0 (gTop w) (.int ae .i64 (f 0)) _;rw[aI,show cs[1]? =_ from I 0 (by omega)];exact .int _ _ _
  |2,t=>cases t;show Den E σ0 (gTop w) (.int ae .i64 (f 1)) _;rw[aI,show cs[2]? =_ from I 1 (by omega)];exact .int _ _ _
  |3,t=>cases t;show Den E σ0 (gTop w) (.int ae .i64 (f 2)) _;rw[aI,show cs[3]? =_ from I 2 (by omega)];exact .int _ _ _
  |4,t=>cases t;show Den E σ0 (gTop w) (.int ae .i64 (f 3)) _;rw[aI,show cs[4]? =_ from I 3 (by omega)];exact .int _ _ _
  |5,t=>cases t;show Den E σ0 (gTop w) (.int ae .i64 (f 4)) _;rw[aI,show cs[5]? =_ from I 4 (by omega)];exact .int _ _ _
  |6,t=>cases t;show Den E σ0 (gTop w) (.int ae .i64 (f 5)) _;rw[aI,show cs[6]? =_ from I 5 (by omega)];exact .int _ _ _
  |7,t=>cases t;show Den E σ0 (gTop w) (.int ae .i64 (f 6)) _;rw[aI,show cs[7]? =_ from I 6 (by omega)];exact .int _ _ _
  |8,t=>cases t;show Den E σ0 (gTop w) (.int ae .i64 (f 7)) _;rw[aI,show cs[8]? =_ from I 7 (by omega)];exact .int _ _ _
  |9,t=>cases t;show Den E σ0 (gTop w) (.int ae .i64 (f 8)) _;rw[aI,show cs[9]? =_ from I 8 (by omega)];exact .int _ _ _
  |10,t=>cases t;show Den E σ0 (gTop w) (.int ae .i64 (f 9)) _;rw[aI,show cs[10]? =_ from I 9 (by omega)];exact .int _ _ _
  |11,t=>cases t;show Den E σ0 (gTop w) (.int ae .i64 (f 10)) _;rw[aI,show cs[11]? =_ from I 10 (by omega)];exact .int _ _ _
  |12,t=>cases t;show Den E σ0 (gTop w) (.int ae .i64 (f 11)) _;rw[aI,show cs[12]? =_ from I 11 (by omega)];exact .int _ _ _
  |13,t=>cases t;show Den E σ0 (gTop w) (.int ae .i64 (f 12)) _;rw[aI,show cs[13]? =_ from I 12 (by omega)];exact .int _ _ _
  |14,t=>cases t;show Den E σ0 (gTop w) (.int ae .i64 (f 13)) _;rw[aI,show cs[14]? =_ from I 13 (by omega)];exact .int _ _ _
  |15,t=>cases t;show Den E σ0 (gTop w) (.int ae .i64 (f 14)) _;rw[aI,show cs[15]? =_ from I 14 (by omega)];exact .int _ _ _
  |16,t=>cases t;show Den E σ0 (gTop w) (.int ae .i64 (f 15)) _;rw[aI,show cs[16]? =_ from I 15 (by omega)];exact .int _ _ _
end
section
variable {H:Type} {enc:TypeId × Value->H} {w:World} {spare:Nat->Bool} {held:Bool}
end
end
section
open Go.ChangeShapes Go.WideShapes Go.ChangeAt Go.RowKit
theorem Zs2{g j:GH} {w w':World} (h:Stp 0 0 [] σ0 g w σ0 j w'):Ext w w':=⟨h.os,h.tape,h.output,h.size,λk t=>h.heap k t (by simp)⟩
theorem Yb8{g:GH} {J:SV thy} {v0:Value} (R:Den E σ0 g J v0):DenL E σ0 g [J] [v0]:=⟨rfl,λj sv v t I=>by
 match j,t,I with
 |0,t,I=>cases t;cases I;exact R⟩
theorem Zfd{g:GH} {J:SV thy} {v0:Value} {R:List (SV thy)} {vs:List Value} (U:Den E σ0 g J v0) (h:DenL E σ0 g R vs):DenL E σ0 g (J::R) (v0::vs):=⟨by simp[h.1],λj sv v t I=>by
 cases j with
 |zero=>cases t;cases I;exact U
 |succ j=>exact h.2 j sv v t I⟩
end
section
open Go
def nbN(u:Nat):Nat:=if h:u=0 then 0 else nbN (u/256)+1
termination_by u
theorem Zca:nbN 0=0:=by unfold nbN;simp
theorem Zin{u:Nat} (h:u≠0):nbN u=nbN (u/256)+1:=by rw[nbN.eq_1 u,dif_neg h]
theorem Zfg:∀(k u:Nat),u<256^k->nbN u<=k
 |0,u,h=>by
  obtain rfl:u=0:=by simpa using h
  rw[Zca];exact aE _
 |k+1,u,h=>by
  by_cases j:u=0
  ·subst j;rw[Zca];omega
  ·rw[Zin j]
   have:=Zfg k (u/256) (by rw[Nat.div_lt_iff_lt_mul (by omega)];rw[Nat.pow_succ] at h;exact h)
   omega
def intB(n:Int) (k:Nat) (i:Nat):Int:=wr .u8 (aB (wr .u64 n) (2^min (ag (8*((k:Int)-1-(i:Int)))) 64))
def X2(n:Int):Nat:=if n<0 then nbN (18446744073709551615-wr .u64 n).toNat else nbN (wr .u64 n).toNat
def tagI(n:Int):Int:=if n<0 then 31-(X2 n:Int) else 32+(X2 n:Int)
def encI(n:Int):List Int:=tagI n::(cy (X2 n)).map (intB n (X2 n))
theorem wru(n:Int):0<=wr .u64 n/\wr .u64 n<18446744073709551616:=by simp only[wr,dj];omega
theorem Zio(n:Int):X2 n<=8:=by
 unfold X2;have:=wru n;split
 ·exact Zfg 8 _ (by omega)
 ·exact Zfg 8 _ (by omega)
theorem Zeb(n:Int):(encI n).length=X2 n+1:=by simp[encI]
def escB:List Int->List Int
 | []=> []
 |b::r=>if b=0 then b::255::escB r else b::escB r
theorem Wo(a b:List Int):escB (a++b)=escB a++escB b:=by
 induction a with
 |nil=>rfl
 |cons x a ih=>simp only[fO,escB];split<;>simp[ih]
theorem Z2q(a:List Int):(escB a).length<=2*a.length:=by
 induction a with
 |nil=>simp[escB]
 |cons x a ih=>simp only[escB];split<;>simp<;>omega
mutual
def encV:Val->List Int
 | .mk k n b l=>if k=1 then encI n else if k=2 then 48::escB b++ [0,0] else 64::encL l++ [0]
def encL:List Val->List Int
 | []=> []
 |v::r=>encV v++encL r
end
theorem Zaf(a b:List Val):encL (a++b)=encL a++encL b:=by
 induction a with
 |nil=>rfl
 |cons x a ih=>simp only[fO,encL,ih,List.append_assoc]
mutual
def Zp:Val->Int×Bool
 | .mk k n b l=>if k=1 then(0,b.isEmpty&&l.isEmpty) else if k=2 then(0,n==0&&l.isEmpty) else if k=3 then(if n≠0\/b≠ [] then(0,ae) else Wz l 0) else(0,ae)
def Wz:List Val->Int->Int×Bool
 | [],d=>(d+1,af)
 |v::r,d=>if(Zp v).2 then Wz r (max d (Zp v).1) else(0,ae)
end
mutual
def Val.ht:Val->Nat
 | .mk _ _ _ l=>htL l+1
def htL:List Val->Nat
 | []=>0
 |v::r=>max v.ht (htL r)
end
theorem Zdj{v:Val}:∀{l:List Val},v∈l->v.ht<=htL l
 |x::r,h=>by
  rw[htL]
  rcases bE.1 h with rfl|h
  ·omega
  ·have:=Zdj h;omega
theorem Zcb(v:Val):v.ht=htL v.l+1:=by cases v;rfl
mutual
def Val.sz:Val->Nat
 | .mk _ _ b l=>2*b.length+szL l+16
def szL:List Val->Nat
 | []=>0
 |v::r=>v.sz+szL r
end
theorem Z2r(v:Val):v.sz=2*v.b.length+szL v.l+16:=by cases v;rfl
mutual
theorem Zqs:∀(v:Val),(encV v).length<=v.sz
 | .mk k n b l=>by
  rw[encV,Val.sz]
  have j:=Zio n
  have t:=Zqt l
  have I:=Z2q b
  split
  ·rw[Zeb];omega
  ·split
   ·simp;omega
   ·simp;omega
theorem Zqt:∀(l:List Val),(encL l).length<=szL l
 | []=>aE _
 |v::r=>by
  rw[encL,szL,aO]
  have:=Zqs v
  have:=Zqt r
  omega
end
theorem Wl(v:Val):Val.mk v.k v.n v.b v.l=v:=by cases v;rfl
structure OkV(v:Val):Prop where
 sz:v.sz<=1000000000000
theorem Z4t{v:Val}:∀{l:List Val},v∈l->v.sz<=szL l
 |x::r,h=>by
  rw[szL]
  rcases bE.1 h with rfl|h
  ·omega
  ·have:=Z4t h;omega
mutual
theorem Z7i:∀v:Val,v.ht<=v.sz
 | .mk k n b l=>by have:=Z4u l;rw[Val.ht,Val.sz];omega
theorem Z4u:∀l:List Val,htL l<=szL l
 | []=>aE _
 |v::r=>by have:=Z7i v;have:=Z4u r;rw[htL,szL];omega
end
theorem Zx2:∀(l:List Val),l.length<=szL l
 | []=>aE _
 |x::r=>by
  have:=Zx2 r
  have j:=Z2r x
  rw[szL,aT]
  omega
theorem OkV.mem{v x:Val} (h:OkV v) (j:x∈v.l):OkV x:=by
 refine⟨?_⟩;have:=h.sz;have:=Z4t j;have:=Z2r v;omega
theorem OkV.ln{v:Val} (h:OkV v):v.l.length<=1000000000000:=by
 have:=h.sz;have:=Zx2 v.l;have:=Z2r v;omega
theorem OkV.bn{v:Val} (h:OkV v):v.b.length<=1000000000000:=by
 have:=h.sz;have:=Z2r v;omega
theorem OkV.en{v:Val} (h:OkV v):(encV v).length<=1000000000000:=Nat.le_trans (Zqs v) h.sz
theorem V8:∀(l:List Val) (d:Int),Wz l d=if l.all (λv=>(Zp v).2) then(l.foldl (λd v=>max d (Zp v).1) d+1,af) else(0,ae)
 | [],d=>by simp[Wz]
 |v::r,d=>by
  rw[Wz,V8 r]
  by_cases h:(Zp v).2=af
  ·simp[h]
  ·simp[h]
theorem Zip:∀(n:Nat) (v:Val),v.ht<=n->0<=(Zp v).1/\(Zp v).1<=n
 |0,v,h=>by rw[Zcb] at h;omega
 |n+1,v,h=>by
  have J:∀(l:List Val) (d:Int),htL l<=n->0<=d->d<=n->0<=(Wz l d).1/\(Wz l d).1<=n+1:=by
   intro l
   induction l with
   |nil=>intro d _ t I;rw[Wz];exact⟨by show 0<=d+1;omega,by show d+1<=n+1;omega⟩
   |cons x r ih=>
    intro d j t I
    rw[htL] at j
    obtain⟨R,U⟩:=Zip n x (by omega)
    rw[Wz]
    split
    ·exact ih _ (by omega) (by omega) (by omega)
    ·exact⟨eu _,by show 0<=_;omega⟩
  cases v with
  |mk k m b l=>
   rw[Zcb] at h
   simp only[Val.l] at h
   rw[Zp]
   split
   ·exact⟨eu _,by show 0<=_;omega⟩
   ·split
    ·exact⟨eu _,by show 0<=_;omega⟩
    ·split
     ·split
      ·exact⟨eu _,by show 0<=_;omega⟩
      ·exact J l 0 (by omega) (eu _) (by omega)
     ·exact⟨eu _,by show 0<=_;omega⟩
theorem Zcc(v:Val):Zp v=if v.k=1 then(0,v.b.isEmpty&&v.l.isEmpty) else if v.k=2 then(0,v.n==0&&v.l.isEmpty) else if v.k=3 then(if v.n≠0\/v.b≠ [] then(0,ae) else Wz v.l 0) else(0,ae):=by cases v;rw[Zp];rfl
theorem Zag(v:Val):encV v=if v.k=1 then encI v.n else if v.k=2 then 48::escB v.b++ [0,0] else 64::encL v.l++ [0]:=by cases v;rw[encV];rfl
theorem Zg7(a b:List Val) (d:Int) (j:∀v∈a,(Zp v).2=af):Wz (a++b) d=Wz b (a.foldl (λd v=>max d (Zp v).1) d):=by
 induction a generalizing d with
 |nil=>rfl
 |cons x a ih=>
  rw[fO,Wz,jh (j x (by simp)),ih _ λv t=>j v (by simp[t])];rfl
theorem Ye{α:Type} {l:List α} {k:Nat} {x:α} (h:l[k]? =ah x):l.take (k+1)=l.take k++ [x]:=by rw[List.take_add_one,h];rfl
end
end Go.Proofs.YtahcfmdfjjjmjaaGreatDoor
