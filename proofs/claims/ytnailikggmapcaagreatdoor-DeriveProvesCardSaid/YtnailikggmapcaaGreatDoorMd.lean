/- Merged texts: TvEng, TvOk, Close, TvSm, EngZC, TvBin, Money, TvB, TvC, TvD, TvE, TvF, TvG, TvH, TvI, TvJ, TvTopA, TvTop, TvUs, TvUa, TvUb, TvUc, TvL. -/
import Derived.Test.YtnailikggmapcaaGreatDoorProg
import Derived.Test.YtnailikggmapcaaGreatDoorRows
import Derived.ProofKit
import Derived.OpenShut
import Derived.Stop.Joined
import Derived.SevenTiedAt
import Derived.WideKeyElems2
import Derived.LaidMore
import Derived.Deep.Slices
import Derived.Test.YtnailikggmapcaaGreatDoorTie
import Derived.Test.YtnailikggmapcaaGreatDoorCards
import Derived.Test.YtnailikggmapcaaGreatDoorMc
noncomputable section
namespace Go.Proofs.YtnailikggmapcaaGreatDoor
set_option linter.unusedVariables false
set_option linter.unusedSimpArgs false
set_option linter.unnecessarySimpa false
set_option maxRecDepth 100000
section
open Go
inductive Th|ints|u32s|w64|ins|sts|bys|vals|byss|opns|envs|digs
  deriving DecidableEq
def domT:Th->Type| .ints=>Int| .u32s=>Int| .w64=>Int| .ins=>Ins| .sts=>St| .bys=>Int| .vals=>Val| .byss=>List (Int)| .opns=>Opn| .envs=>Env| .digs=>List Int
abbrev thy:Thy:=⟨Th,domT,inferInstance⟩
def yF (a b:Array TypeId):TyI:=⟨.func a b false,1,8,.nilFunc⟩
def yS (t:TypeId):TyI:=⟨.slice t,1,24,.slice none 0 0⟩
def yP (t:TypeId):TyI:=⟨.pointer t,1,8,.pointer none⟩
def yI (k:IntKind) (n:Nat):TyI:=⟨.int k,1,n,.int k 0⟩
def yf (n:String) (t:TypeId) (o:Nat) (p:String) (b:Nat):Field:=⟨n,t,o,false,"",p,b⟩
def yZ1:TyI:=⟨.struct #[yf "x" 2 0 "runtime" 0,yf "y" 3 1 "runtime" 8,yf "signed" 4 2 "runtime" 16,yf "code" 6 3 "runtime" 17],4,24,.agg #[.int .i64 0,.int .i64 0,.bool false,.int .u8 0]⟩
def yZ2:TyI:=⟨.struct #[yf "msg" 9 0 "runtime" 0,yf "addr" 12 1 "runtime" 16],2,24,.agg #[.string ⟨#[]⟩,.int .u64 0]⟩
def yZ3:TyI:=⟨.struct #[yf "typ" 17 0 "internal/runtime/maps" 0],1,8,.agg #[.pointer none]⟩
def yZ4:TyI:=⟨.struct #[yf "Has" 3 0 "" 0,yf "V" 24 1 "" 8],17,136,.agg ⟨List.replicate 17 (.int .i64 0)⟩⟩
def yZ5:TyI:=⟨.struct #[yf "Code" 23 0 "" 0,yf "Env" 26 1 "" 24,yf "Amount" 3 18 "" 160,yf "Error" 30 19 "" 168,yf "Leaves" 31 20 "" 176],21,200,.agg #[.slice none 0 0,.int .i64 0,.int .i64 0,.int .i64 0,.int .i64 0,.int .i64 0,.int .i64 0,.int .i64 0,.int .i64 0,.int .i64 0,.int .i64 0,.int .i64 0,.int .i64 0,.int .i64 0,.int .i64 0,.int .i64 0,.int .i64 0,.int .i64 0,.int .i64 0,.int .i64 0,.slice none 0 0]⟩
def yZ6:TyI:=⟨.struct #[yf "Pc" 3 0 "" 0,yf "Fuel" 3 1 "" 8,yf "Status" 3 2 "" 16,yf "Clause" 3 3 "" 24,yf "Stack" 41 4 "" 32],5,56,.agg #[.int .i64 0,.int .i64 0,.int .i64 0,.int .i64 0,.slice none 0 0]⟩
def yZ7:TyI:=⟨.struct #[yf "Pc" 3 0 "" 0,yf "Fuel" 3 1 "" 8,yf "Status" 3 2 "" 16,yf "Clause" 3 3 "" 24,yf "Top" 41 4 "" 32,yf "Depth" 3 5 "" 56,yf "Rest" 28 6 "" 64],38,96,.agg #[.int .i64 0,.int .i64 0,.int .i64 0,.int .i64 0,.slice none 0 0,.int .i64 0,.int .u8 0,.int .u8 0,.int .u8 0,.int .u8 0,.int .u8 0,.int .u8 0,.int .u8 0,.int .u8 0,.int .u8 0,.int .u8 0,.int .u8 0,.int .u8 0,.int .u8 0,.int .u8 0,.int .u8 0,.int .u8 0,.int .u8 0,.int .u8 0,.int .u8 0,.int .u8 0,.int .u8 0,.int .u8 0,.int .u8 0,.int .u8 0,.int .u8 0,.int .u8 0,.int .u8 0,.int .u8 0,.int .u8 0,.int .u8 0,.int .u8 0,.int .u8 0]⟩
def yZ8:TyI:=⟨.struct #[yf "Op" 3 0 "" 0,yf "N" 3 1 "" 8,yf "M" 3 2 "" 16],3,24,.agg #[.int .i64 0,.int .i64 0,.int .i64 0]⟩
def yZ9:TyI:=⟨.struct #[yf "Size" 3 0 "" 0,yf "Root" 28 1 "" 8],33,40,.agg #[.int .i64 0,.int .u8 0,.int .u8 0,.int .u8 0,.int .u8 0,.int .u8 0,.int .u8 0,.int .u8 0,.int .u8 0,.int .u8 0,.int .u8 0,.int .u8 0,.int .u8 0,.int .u8 0,.int .u8 0,.int .u8 0,.int .u8 0,.int .u8 0,.int .u8 0,.int .u8 0,.int .u8 0,.int .u8 0,.int .u8 0,.int .u8 0,.int .u8 0,.int .u8 0,.int .u8 0,.int .u8 0,.int .u8 0,.int .u8 0,.int .u8 0,.int .u8 0,.int .u8 0]⟩
def yZ10:TyI:=⟨.struct #[yf "Railway" 3 0 "" 0,yf "No" 3 1 "" 8],2,16,.agg #[.int .i64 0,.int .i64 0]⟩
def yZ11:TyI:=⟨.struct #[yf "Kind" 3 0 "" 0,yf "Wagon" 3 1 "" 8,yf "Ref" 76 2 "" 16,yf "Part" 3 4 "" 32],5,40,.agg #[.int .i64 0,.int .i64 0,.int .i64 0,.int .i64 0,.int .i64 0]⟩
def yZ12:TyI:=⟨.struct #[yf "Key" 78 0 "" 0,yf "Payer" 3 5 "" 40,yf "Payee" 3 6 "" 48,yf "Railway" 3 7 "" 56,yf "At" 3 8 "" 64,yf "Env" 26 9 "" 72,yf "Sources" 79 26 "" 208],27,232,.agg #[.int .i64 0,.int .i64 0,.int .i64 0,.int .i64 0,.int .i64 0,.int .i64 0,.int .i64 0,.int .i64 0,.int .i64 0,.int .i64 0,.int .i64 0,.int .i64 0,.int .i64 0,.int .i64 0,.int .i64 0,.int .i64 0,.int .i64 0,.int .i64 0,.int .i64 0,.int .i64 0,.int .i64 0,.int .i64 0,.int .i64 0,.int .i64 0,.int .i64 0,.int .i64 0,.slice none 0 0]⟩
def yZ13:TyI:=⟨.struct #[yf "v" 26 0 "wagonpool/tvm" 0,yf "s" 43 17 "wagonpool/tvm" 136,yf "below" 3 22 "wagonpool/tvm" 192],23,200,.agg #[.int .i64 0,.int .i64 0,.int .i64 0,.int .i64 0,.int .i64 0,.int .i64 0,.int .i64 0,.int .i64 0,.int .i64 0,.int .i64 0,.int .i64 0,.int .i64 0,.int .i64 0,.int .i64 0,.int .i64 0,.int .i64 0,.int .i64 0,.int .i64 0,.int .i64 0,.int .i64 0,.int .i64 0,.slice none 0 0,.int .i64 0]⟩
def yZ14:TyI:=⟨.struct #[yf "Kind" 3 0 "" 0,yf "N" 3 1 "" 8,yf "B" 109 2 "" 16,yf "L" 110 3 "" 40],4,64,.agg #[.int .i64 0,.int .i64 0,.slice none 0 0,.slice none 0 0]⟩
def yZ15:TyI:=⟨.struct #[yf "apply" 119 0 "wagonpool/tvm" 0],1,8,.agg #[.nilFunc]⟩
def yZ16:TyI:=⟨.struct #[yf "Name" 9 0 "" 0,yf "For" 3 1 "" 16,yf "Clauses" 129 2 "" 24],3,48,.agg #[.string ⟨#[]⟩,.int .i64 0,.slice none 0 0]⟩
def yZ17:TyI:=⟨.struct #[yf "Kind" 3 0 "" 0,yf "Ref" 76 1 "" 8,yf "Wagon" 3 3 "" 24,yf "Place" 3 4 "" 32,yf "Other" 3 5 "" 40,yf "Number" 3 6 "" 48,yf "From" 3 7 "" 56,yf "To" 3 8 "" 64,yf "Code" 3 9 "" 72,yf "Dest" 3 10 "" 80,yf "Class" 3 11 "" 88,yf "Weight" 3 12 "" 96,yf "Amount" 3 13 "" 104,yf "Text" 9 14 "" 112,yf "Parts" 148 15 "" 128],16,152,.agg #[.int .i64 0,.int .i64 0,.int .i64 0,.int .i64 0,.int .i64 0,.int .i64 0,.int .i64 0,.int .i64 0,.int .i64 0,.int .i64 0,.int .i64 0,.int .i64 0,.int .i64 0,.int .i64 0,.string ⟨#[]⟩,.slice none 0 0]⟩
def yZ18:TyI:=⟨.struct #[yf "Ref" 76 0 "" 0,yf "By" 76 2 "" 16,yf "Time" 3 4 "" 32,yf "Item" 150 5 "" 40],21,192,.agg #[.int .i64 0,.int .i64 0,.int .i64 0,.int .i64 0,.int .i64 0,.int .i64 0,.int .i64 0,.int .i64 0,.int .i64 0,.int .i64 0,.int .i64 0,.int .i64 0,.int .i64 0,.int .i64 0,.int .i64 0,.int .i64 0,.int .i64 0,.int .i64 0,.int .i64 0,.string ⟨#[]⟩,.slice none 0 0]⟩
def yZ19:TyI:=⟨.struct #[yf "code" 23 0 "wagonpool/tcode" 0],1,24,.agg #[.slice none 0 0]⟩
def yZ20:TyI:=⟨.struct #[yf "Op" 3 0 "" 0,yf "N" 3 1 "" 8,yf "Unit" 160 2 "" 16,yf "L" 161 6 "" 48],7,72,.agg #[.int .i64 0,.int .i64 0,.int .i64 0,.int .i64 0,.int .i64 0,.int .i64 0,.slice none 0 0]⟩
def yZ21:TyI:=⟨.struct #[yf "Name" 9 0 "" 0,yf "When" 158 1 "" 16,yf "Pay" 163 2 "" 40],9,112,.agg #[.string ⟨#[]⟩,.slice none 0 0,.int .i64 0,.int .i64 0,.int .i64 0,.int .i64 0,.int .i64 0,.int .i64 0,.slice none 0 0]⟩
def yZ22:TyI:=⟨.struct #[yf "Attr" 3 0 "" 0,yf "Low" 3 1 "" 8,yf "High" 3 2 "" 16],3,24,.agg #[.int .i64 0,.int .i64 0,.int .i64 0]⟩
def yZ23:TyI:=⟨.struct #[yf "at" 3 0 "wagonpool/tparse" 0,yf "e" 30 1 "wagonpool/tparse" 8],2,16,.agg #[.int .i64 0,.int .i64 0]⟩
def yZ24:TyI:=⟨.struct #[yf "l" 207 0 "wagonpool/tparse" 0,yf "end" 3 1 "wagonpool/tparse" 24],2,32,.agg #[.slice none 0 0,.int .i64 0]⟩
def yZ25:TyI:=⟨.struct #[yf "l" 223 0 "wagonpool/tparse" 0],1,24,.agg #[.slice none 0 0]⟩
def yZ26:TyI:=⟨.struct #[yf "low" 234 0 "wagonpool/tbox" 0,yf "high" 234 16 "wagonpool/tbox" 128],32,256,.agg ⟨List.replicate 32 (.int .i64 0)⟩⟩
def yZ27:TyI:=⟨.struct #[yf "Kind" 3 0 "" 0,yf "Text" 9 1 "" 8,yf "N" 3 2 "" 24,yf "At" 3 3 "" 32],4,40,.agg #[.int .i64 0,.string ⟨#[]⟩,.int .i64 0,.int .i64 0]⟩
def yZ28:TyI:=⟨.struct #[yf "addr" 262 0 "strings" 0,yf "buf" 109 1 "strings" 8],2,32,.agg #[.pointer none,.slice none 0 0]⟩
def yZ29:TyI:=⟨.struct #[yf "unit" 270 0 "wagonpool/ttype" 0],1,8,.agg #[.nilFunc]⟩
def yZ30:TyI:=⟨.struct #[yf "start" 3 0 "strings" 0,yf "end" 3 1 "strings" 8],2,16,.agg #[.int .i64 0,.int .i64 0]⟩
def yZ31:TyI:=⟨.struct #[yf "R16" 314 0 "" 0,yf "R32" 315 1 "" 24,yf "LatinOffset" 3 2 "" 48],3,56,.agg #[.slice none 0 0,.slice none 0 0,.int .i64 0]⟩
def yZ32:TyI:=⟨.struct #[yf "Lo" 318 0 "" 0,yf "Hi" 318 1 "" 2,yf "Stride" 318 2 "" 4],3,6,.agg #[.int .u16 0,.int .u16 0,.int .u16 0]⟩
def yZ33:TyI:=⟨.struct #[yf "Lo" 143 0 "" 0,yf "Hi" 143 1 "" 4,yf "Stride" 143 2 "" 8],3,12,.agg #[.int .u32 0,.int .u32 0,.int .u32 0]⟩
def yZ34:TyI:=⟨.struct #[yf "lo" 5 0 "unicode/utf8" 0,yf "hi" 5 1 "unicode/utf8" 1],2,2,.agg #[.int .u8 0,.int .u8 0]⟩
def yZ35:TyI:=⟨.struct #[yf "_interface" 17 0 "runtime" 0,yf "concrete" 17 1 "runtime" 8,yf "asserted" 17 2 "runtime" 16,yf "missingMethod" 9 3 "runtime" 24],4,40,.agg #[.pointer none,.pointer none,.pointer none,.string ⟨#[]⟩]⟩
def yZ36:TyI:=⟨.struct #[yf "_" 346 0 "runtime" 0],0,0,.agg #[]⟩
def yZ37:TyI:=⟨.struct #[yf "Size_" 12 0 "" 0,yf "PtrBytes" 12 1 "" 8,yf "Hash" 143 2 "" 16,yf "TFlag" 349 3 "" 20,yf "Align_" 5 4 "" 21,yf "FieldAlign_" 5 5 "" 22,yf "Kind_" 350 6 "" 23,yf "Equal" 351 7 "" 24,yf "GCData" 308 8 "" 32,yf "Str" 352 9 "" 40,yf "PtrToThis" 353 10 "" 44],11,48,.agg #[.int .u64 0,.int .u64 0,.int .u32 0,.int .u8 0,.int .u8 0,.int .u8 0,.int .u8 0,.nilFunc,.pointer none,.int .i32 0,.int .i32 0]⟩
def yZ38:TyI:=⟨.struct #[yf "Kind" 3 0 "" 0,yf "Serial" 3 1 "" 8,yf "Fitted" 4 2 "" 16],3,24,.agg #[.int .i64 0,.int .i64 0,.bool false]⟩
def tyT:Tr TyI:=(.node 183 (.node 90 (.node 45 (.node 21 (.node 11 (.node 6 (.node 3 (.node 2 (.leaf 1 (yF #[] #[])) (.leaf 2 (yI .i64 8))) (.node 4 (.leaf 3 (yI .i64 8)) (.node 5 (.leaf 4 ⟨.bool,1,1,.bool false⟩) (.leaf 5 (yI .u8 1))))) (.node 8 (.node 7 (.leaf 6 (yI .u8 1)) (.leaf 7 yZ1)) (.node 9 (.leaf 8 yZ1) (.node 10 (.leaf 9 ⟨.string,1,16,.string ⟨#[]⟩⟩) (.leaf 10 ⟨.string,1,16,.string ⟨#[]⟩⟩))))) (.node 16 (.node 13 (.node 12 (.leaf 11 ⟨.string,1,16,.string ⟨#[]⟩⟩) (.leaf 12 (yI .u64 8))) (.node 14 (.leaf 13 yZ2) (.node 15 (.leaf 14 yZ2) (.leaf 15 (yP 345))))) (.node 18 (.node 17 (.leaf 16 (yP 348)) (.leaf 17 (yP 355))) (.node 19 (.leaf 18 yZ3) (.node 20 (.leaf 19 yZ3) (.leaf 20 ⟨.interface #[],1,16,.nilIface⟩)))))) (.node 31 (.node 26 (.node 23 (.node 22 (.leaf 21 (yI .i32 4)) (.leaf 22 (yS 58))) (.node 24 (.leaf 23 (yS 58)) (.node 25 (.leaf 24 ⟨.array 16 3,16,128,.agg ⟨List.replicate 16 (.int .i64 0)⟩⟩) (.leaf 25 yZ4)))) (.node 28 (.node 27 (.leaf 26 yZ4) (.leaf 27 ⟨.array 32 5,32,32,.agg ⟨List.replicate 32 (.int .u8 0)⟩⟩)) (.node 29 (.leaf 28 ⟨.array 32 5,32,32,.agg ⟨List.replicate 32 (.int .u8 0)⟩⟩) (.node 30 (.leaf 29 (yF #[] #[4])) (.leaf 30 (yI .i64 8)))))) (.node 38 (.node 33 (.node 32 (.leaf 31 (yS 28)) (.leaf 32 yZ5)) (.node 35 (.leaf 33 yZ5) (.node 36 (.leaf 35 (yF #[23,26] #[33,30])) (.leaf 36 (yF #[23] #[4]))))) (.node 41 (.node 39 (.leaf 38 (yF #[33] #[3,30])) (.node 40 (.leaf 39 (yI .u64 8)) (.leaf 40 (yF #[23,26,3,28,3] #[4])))) (.node 42 (.leaf 41 (yS 3)) (.node 43 (.leaf 42 yZ6) (.leaf 43 yZ6))))))) (.node 69 (.node 56 (.node 51 (.node 47 (.node 46 (.leaf 45 (yF #[3] #[43,30])) (.leaf 46 (yF #[33,3] #[43,30]))) (.node 48 (.leaf 47 (yF #[23,26,43] #[43,30])) (.node 49 (.leaf 48 (yF #[43,43] #[4])) (.leaf 49 (yF #[23,26,43] #[28]))))) (.node 53 (.node 52 (.leaf 51 (yF #[43] #[3,3,30])) (.leaf 52 (yF #[23,26] #[4]))) (.node 54 (.leaf 53 yZ7) (.node 55 (.leaf 54 yZ7) (.leaf 55 (yF #[43,3] #[54])))))) (.node 62 (.node 58 (.node 57 (.leaf 56 (yF #[3] #[3])) (.leaf 57 yZ8)) (.node 60 (.leaf 58 yZ8) (.node 61 (.leaf 60 (yF #[23,26,54] #[54,30])) (.leaf 61 (yF #[23,26,54] #[28]))))) (.node 65 (.node 63 (.leaf 62 yZ9) (.leaf 63 yZ9)) (.node 67 (.leaf 65 (yF #[33] #[63,30])) (.node 68 (.leaf 67 (yF #[31,3] #[31,30])) (.leaf 68 (yF #[33,3] #[33]))))))) (.node 79 (.node 74 (.node 71 (.node 70 (.leaf 69 (yF #[63,3,28,31] #[4])) (.leaf 70 (yF #[31,31] #[3]))) (.node 72 (.leaf 71 (yF #[23,26,3] #[4])) (.node 73 (.leaf 72 (yF #[] #[23])) (.leaf 73 (yF #[3] #[26]))))) (.node 76 (.node 75 (.leaf 74 (yF #[95,81] #[33,30])) (.leaf 75 yZ10)) (.node 77 (.leaf 76 yZ10) (.node 78 (.leaf 77 yZ11) (.leaf 78 yZ11))))) (.node 84 (.node 81 (.node 80 (.leaf 79 (yS 76)) (.leaf 80 yZ12)) (.node 82 (.leaf 81 yZ12) (.node 83 (.leaf 82 (yF #[23] #[3,30])) (.leaf 83 (yF #[103] #[]))))) (.node 87 (.node 85 (.leaf 84 (yF #[23,26] #[83])) (.node 86 (.leaf 85 (yF #[23,43,3] #[30])) (.leaf 86 (yF #[23,26,43,3] #[43])))) (.node 88 (.leaf 87 (yF #[41,41] #[4])) (.node 89 (.leaf 88 (yF #[41] #[28])) (.leaf 89 (yF #[31] #[63,30]))))))))) (.node 137 (.node 112 (.node 102 (.node 95 (.node 92 (.node 91 (.leaf 90 (yF #[31,3,92] #[])) (.leaf 91 (yF #[31,3,28] #[28]))) (.node 93 (.leaf 92 (yF #[3,31,28] #[])) (.node 94 (.leaf 93 (yF #[28,28] #[28])) (.leaf 94 (yF #[] #[28]))))) (.node 98 (.node 97 (.leaf 95 (yS 152)) (.leaf 97 (yF #[95,3,3,3] #[23,30]))) (.node 99 (.leaf 98 (yF #[23,99] #[4])) (.node 100 (.leaf 99 (yF #[58] #[4])) (.leaf 100 (yF #[41,3] #[41])))))) (.node 107 (.node 104 (.node 103 (.leaf 102 (yF #[3] #[3,3])) (.leaf 103 (yF #[3,43] #[4]))) (.node 105 (.leaf 104 (yP 106)) (.node 106 (.leaf 105 yZ13) (.leaf 106 yZ13)))) (.node 109 (.node 108 (.leaf 107 (yF #[58] #[30])) (.leaf 108 (yF #[9,112] #[28]))) (.node 110 (.leaf 109 (yS 5)) (.node 111 (.leaf 110 (yS 112)) (.leaf 111 yZ14)))))) (.node 123 (.node 117 (.node 114 (.node 113 (.leaf 112 yZ14) (.leaf 113 ⟨.func #[110] #[112] true,1,8,.nilFunc⟩)) (.node 115 (.leaf 114 (yF #[28] #[112])) (.node 116 (.leaf 115 (yF #[23] #[28])) (.leaf 116 (yF #[26] #[28]))))) (.node 119 (.node 118 (.leaf 117 (yF #[3] #[112])) (.leaf 118 (yF #[28,41] #[28]))) (.node 120 (.leaf 119 (yF #[3,3] #[3,30])) (.node 121 (.leaf 120 yZ15) (.leaf 121 yZ15))))) (.node 129 (.node 126 (.node 125 (.leaf 123 ⟨.map 3 121,1,8,.map none⟩) (.leaf 125 (yF #[31,3,3] #[28,4]))) (.node 127 (.leaf 126 (yF #[127] #[3])) (.node 128 (.leaf 127 (yI .u64 8)) (.leaf 128 (yF #[9,109] #[28]))))) (.node 133 (.node 130 (.leaf 129 (yS 165)) (.node 131 (.leaf 130 yZ16) (.leaf 131 yZ16))) (.node 134 (.leaf 133 (yF #[95,3,3,3] #[131,30])) (.node 135 (.leaf 134 (yF #[131] #[23,30])) (.leaf 135 (yF #[23,99] #[3])))))))) (.node 159 (.node 149 (.node 144 (.node 141 (.node 138 (.leaf 137 (yF #[127,127] #[127,127])) (.leaf 138 ⟨.map 3 107,1,8,.map none⟩)) (.node 142 (.leaf 141 (yF #[112] #[109,30])) (.node 143 (.leaf 142 (yF #[143] #[3])) (.leaf 143 (yI .u32 4))))) (.node 146 (.node 145 (.leaf 144 (yF #[39] #[3])) (.leaf 145 ⟨.func #[177] #[28] true,1,8,.nilFunc⟩)) (.node 147 (.leaf 146 (yF #[3,3] #[4])) (.node 148 (.leaf 147 (yF #[95,3,3] #[95])) (.leaf 148 (yS 357)))))) (.node 154 (.node 151 (.node 150 (.leaf 149 yZ17) (.leaf 150 yZ17)) (.node 152 (.leaf 151 yZ18) (.node 153 (.leaf 152 yZ18) (.leaf 153 (yF #[9,3] #[131,30]))))) (.node 156 (.node 155 (.leaf 154 (yF #[131,131] #[131])) (.leaf 155 (yF #[131] #[30]))) (.node 157 (.leaf 156 yZ19) (.node 158 (.leaf 157 yZ19) (.leaf 158 (yS 198))))))) (.node 171 (.node 164 (.node 161 (.node 160 (.leaf 159 ⟨.array 4 3,4,32,.agg #[.int .i64 0,.int .i64 0,.int .i64 0,.int .i64 0]⟩) (.leaf 160 ⟨.array 4 3,4,32,.agg #[.int .i64 0,.int .i64 0,.int .i64 0,.int .i64 0]⟩)) (.node 162 (.leaf 161 (yS 163)) (.node 163 (.leaf 162 yZ20) (.leaf 163 yZ20)))) (.node 166 (.node 165 (.leaf 164 yZ21) (.leaf 165 yZ21)) (.node 167 (.leaf 166 (yF #[165,3] #[])) (.node 169 (.leaf 167 (yF #[3,3,3] #[1])) (.leaf 169 (yF #[143,143] #[143,143])))))) (.node 177 (.node 173 (.node 172 (.leaf 171 (yF #[39,39] #[39,39])) (.leaf 172 ⟨.func #[3,41] #[30] true,1,8,.nilFunc⟩)) (.node 175 (.leaf 173 (yF #[4] #[3])) (.node 176 (.leaf 175 (yF #[112] #[3,4])) (.leaf 176 (yF #[109,112] #[109]))))) (.node 180 (.node 178 (.leaf 177 (yS 109)) (.node 179 (.leaf 178 ⟨.array 8 143,8,32,.agg #[.int .u32 0,.int .u32 0,.int .u32 0,.int .u32 0,.int .u32 0,.int .u32 0,.int .u32 0,.int .u32 0]⟩) (.leaf 179 (yF #[178,109] #[178])))) (.node 181 (.leaf 180 (yF #[95,183] #[])) (.node 182 (.leaf 181 ⟨.func #[41] #[3] true,1,8,.nilFunc⟩) (.leaf 182 (yF #[3,3] #[3])))))))))) (.node 276 (.node 229 (.node 206 (.node 196 (.node 191 (.node 186 (.node 185 (.leaf 183 (yF #[152,152] #[3])) (.leaf 185 (yF #[9] #[131,3,30]))) (.node 187 (.leaf 186 ⟨.map 9 165,1,8,.map none⟩) (.node 189 (.leaf 187 (yF #[129] #[129])) (.leaf 189 ⟨.func #[221] #[30] true,1,8,.nilFunc⟩)))) (.node 193 (.node 192 (.leaf 191 (yF #[131] #[9,30])) (.leaf 192 (yF #[] #[30]))) (.node 194 (.leaf 193 (yF #[131] #[3,30])) (.node 195 (.leaf 194 (yF #[9] #[4])) (.leaf 195 ⟨.map 9 4,1,8,.map none⟩))))) (.node 201 (.node 198 (.node 197 (.leaf 196 (yF #[163] #[4])) (.leaf 197 yZ22)) (.node 199 (.leaf 198 yZ22) (.node 200 (.leaf 199 (yF #[163] #[3])) (.leaf 200 (yP 157))))) (.node 203 (.node 202 (.leaf 201 (yF #[163] #[])) (.leaf 202 (yF #[109,3] #[109]))) (.node 204 (.leaf 203 ⟨.array 64 143,64,256,.agg ⟨List.replicate 64 (.int .u32 0)⟩⟩) (.node 205 (.leaf 204 (yF #[143,3] #[143])) (.leaf 205 (yF #[95,3,183] #[]))))))) (.node 218 (.node 213 (.node 209 (.node 207 (.leaf 206 (yF #[3] #[4])) (.leaf 207 (yS 248))) (.node 210 (.leaf 209 (yF #[9] #[207,3,30])) (.node 211 (.leaf 210 yZ23) (.leaf 211 yZ23)))) (.node 215 (.node 214 (.leaf 213 (yP 215)) (.leaf 214 yZ24)) (.node 216 (.leaf 215 yZ24) (.node 217 (.leaf 216 (yF #[9] #[])) (.leaf 217 (yF #[] #[9])))))) (.node 223 (.node 220 (.node 219 (.leaf 218 (yF #[9] #[3])) (.leaf 219 (yF #[] #[3]))) (.node 221 (.leaf 220 (yF #[129] #[165])) (.node 222 (.leaf 221 (yS 192)) (.leaf 222 (yP 225))))) (.node 226 (.node 224 (.leaf 223 (yS 9)) (.node 225 (.leaf 224 yZ25) (.leaf 225 yZ25))) (.node 227 (.leaf 226 ⟨.func #[223] #[] true,1,8,.nilFunc⟩) (.node 228 (.leaf 227 (yF #[9] #[223])) (.leaf 228 (yF #[165] #[])))))))) (.node 254 (.node 242 (.node 235 (.node 231 (.node 230 (.leaf 229 (yF #[223,9] #[9])) (.leaf 230 ⟨.map 3 272,1,8,.map none⟩)) (.node 233 (.leaf 231 (yF #[] #[230])) (.node 234 (.leaf 233 (yF #[230,163] #[160,4])) (.leaf 234 ⟨.array 16 3,16,128,.agg ⟨List.replicate 16 (.int .i64 0)⟩⟩)))) (.node 238 (.node 236 (.leaf 235 yZ26) (.leaf 236 yZ26)) (.node 240 (.leaf 238 (yF #[165] #[236,4])) (.node 241 (.leaf 240 (yF #[131] #[3,3,26,4])) (.leaf 241 (yF #[9,9] #[9])))))) (.node 247 (.node 244 (.node 243 (.leaf 242 (yF #[160] #[4])) (.leaf 243 (yF #[161,196] #[4]))) (.node 245 (.leaf 244 (yF #[95,3,3,183] #[])) (.node 246 (.leaf 245 (yF #[95,3,3,3,183] #[])) (.leaf 246 (yF #[9,5] #[3]))))) (.node 250 (.node 248 (.leaf 247 yZ27) (.leaf 248 yZ27)) (.node 252 (.leaf 250 (yF #[9] #[248,30])) (.node 253 (.leaf 252 (yF #[3] #[248,4])) (.leaf 253 (yF #[9] #[3,4]))))))) (.node 264 (.node 259 (.node 256 (.node 255 (.leaf 254 (yF #[129,255] #[4])) (.leaf 255 (yF #[165] #[4]))) (.node 257 (.leaf 256 (yF #[3] #[198])) (.node 258 (.leaf 257 (yF #[] #[163])) (.leaf 258 ⟨.array 256 5,256,256,.agg ⟨List.replicate 256 (.int .u8 0)⟩⟩)))) (.node 261 (.node 260 (.leaf 259 (yF #[9,260] #[223])) (.leaf 260 (yF #[21] #[4]))) (.node 262 (.leaf 261 (yF #[3] #[])) (.node 263 (.leaf 262 (yP 264)) (.leaf 263 yZ28))))) (.node 270 (.node 266 (.node 265 (.leaf 264 yZ28) (.leaf 265 ⟨.interface #[("Error",217)],1,16,.nilIface⟩)) (.node 268 (.leaf 266 ⟨.interface #[("Error",217)],1,16,.nilIface⟩) (.node 269 (.leaf 268 (yF #[9] #[3,266])) (.leaf 269 (yS 160))))) (.node 273 (.node 271 (.leaf 270 (yF #[269] #[160,4])) (.node 272 (.leaf 271 yZ29) (.leaf 272 yZ29))) (.node 274 (.leaf 273 (yF #[3] #[272])) (.node 275 (.leaf 274 ⟨.array 16 160,64,512,.agg ⟨List.replicate 64 (.int .i64 0)⟩⟩) (.leaf 275 (yF #[] #[274]))))))))) (.node 319 (.node 297 (.node 287 (.node 281 (.node 278 (.node 277 (.leaf 276 (yF #[] #[236])) (.leaf 277 (yF #[198] #[236]))) (.node 279 (.leaf 278 (yF #[236] #[236,4])) (.node 280 (.leaf 279 (yS 236)) (.leaf 280 (yS 4))))) (.node 283 (.node 282 (.leaf 281 (yF #[234] #[26])) (.leaf 282 (yF #[9,5] #[9]))) (.node 284 (.leaf 283 ⟨.array 256 4,256,256,.agg ⟨List.replicate 256 (.bool false)⟩⟩) (.node 286 (.leaf 284 ⟨.array 256 4,256,256,.agg ⟨List.replicate 256 (.bool false)⟩⟩) (.leaf 286 (yF #[9] #[284,4])))))) (.node 292 (.node 289 (.node 288 (.leaf 287 (yF #[9,288] #[9])) (.leaf 288 (yP 284))) (.node 290 (.leaf 289 ⟨.map 3 3,1,8,.map none⟩) (.node 291 (.leaf 290 (yF #[161,196] #[3])) (.leaf 291 (yF #[5] #[4]))))) (.node 294 (.node 293 (.leaf 292 (yF #[9,291] #[3])) (.leaf 293 (yF #[9] #[3,30]))) (.node 295 (.leaf 294 ⟨.map 5 9,1,8,.map none⟩) (.node 296 (.leaf 295 (yF #[9,9] #[4])) (.leaf 296 (yF #[223,9] #[3]))))))) (.node 307 (.node 302 (.node 299 (.node 298 (.leaf 297 (yF #[129,255] #[3])) (.leaf 298 (yF #[257,219] #[163]))) (.node 300 (.leaf 299 (yS 301)) (.node 301 (.leaf 300 yZ30) (.leaf 301 yZ30)))) (.node 304 (.node 303 (.leaf 302 (yF #[303,21] #[4])) (.leaf 303 (yP 317))) (.node 305 (.leaf 304 (yF #[3] #[9])) (.node 306 (.leaf 305 ⟨.func #[9,223] #[] true,1,8,.nilFunc⟩) (.leaf 306 (yF #[160] #[])))))) (.node 313 (.node 310 (.node 308 (.leaf 307 (yF #[163,3] #[])) (.leaf 308 (yP 5))) (.node 311 (.leaf 310 (yF #[9] #[21,3])) (.node 312 (.leaf 311 (yF #[9,21] #[4])) (.leaf 312 (yF #[] #[160]))))) (.node 316 (.node 314 (.leaf 313 ⟨.func #[3,223] #[163] true,1,8,.nilFunc⟩) (.node 315 (.leaf 314 (yS 320)) (.leaf 315 (yS 323)))) (.node 317 (.leaf 316 yZ31) (.node 318 (.leaf 317 yZ31) (.leaf 318 (yI .u16 2)))))))) (.node 341 (.node 329 (.node 324 (.node 321 (.node 320 (.leaf 319 yZ32) (.leaf 320 yZ32)) (.node 322 (.leaf 321 (yF #[314,318] #[4])) (.node 323 (.leaf 322 yZ33) (.leaf 323 yZ33)))) (.node 326 (.node 325 (.leaf 324 (yF #[315,143] #[4])) (.leaf 325 (yF #[41,3] #[3]))) (.node 327 (.leaf 326 ⟨.unsafePointer,1,8,.pointer none⟩) (.node 328 (.leaf 327 (yF #[326] #[326])) (.leaf 328 (yF #[3] #[109])))))) (.node 334 (.node 331 (.node 330 (.leaf 329 (yF #[9,21] #[3])) (.leaf 330 (yP 320))) (.node 332 (.leaf 331 (yP 323)) (.node 333 (.leaf 332 (yF #[2,3] #[9])) (.leaf 333 yZ34)))) (.node 337 (.node 335 (.leaf 334 yZ34) (.node 336 (.leaf 335 ⟨.array 16 334,32,32,.agg ⟨List.replicate 32 (.int .u8 0)⟩⟩) (.leaf 336 (yF #[9,9] #[3])))) (.node 338 (.leaf 337 ⟨.array 24 5,24,24,.agg ⟨List.replicate 24 (.int .u8 0)⟩⟩) (.node 340 (.leaf 338 (yF #[109,39] #[])) (.leaf 340 (yF #[109,39,3,4,4] #[109,9]))))))) (.node 351 (.node 346 (.node 343 (.node 342 (.leaf 341 ⟨.array 20 39,20,160,.agg ⟨List.replicate 20 (.int .u64 0)⟩⟩) (.leaf 342 ⟨.array 65 5,65,65,.agg ⟨List.replicate 65 (.int .u8 0)⟩⟩)) (.node 344 (.leaf 343 ⟨.array 64 5,64,64,.agg ⟨List.replicate 64 (.int .u8 0)⟩⟩) (.node 345 (.leaf 344 yZ35) (.leaf 345 yZ35)))) (.node 348 (.node 347 (.leaf 346 ⟨.array 0 16,0,0,.agg #[]⟩) (.leaf 347 yZ36)) (.node 349 (.leaf 348 yZ36) (.node 350 (.leaf 349 (yI .u8 1)) (.leaf 350 (yI .u8 1)))))) (.node 356 (.node 353 (.node 352 (.leaf 351 (yF #[326,326] #[4])) (.leaf 352 (yI .i32 4))) (.node 354 (.leaf 353 (yI .i32 4)) (.node 355 (.leaf 354 yZ37) (.leaf 355 yZ37)))) (.node 359 (.node 357 (.leaf 356 yZ38) (.node 358 (.leaf 357 yZ38) (.leaf 358 (yF #[3,3,3] #[3,30])))) (.node 360 (.leaf 359 ⟨.func #[41] #[4] true,1,8,.nilFunc⟩) (.node 361 (.leaf 360 (yF #[3] #[3,30])) (.leaf 361 (yF #[3] #[39])))))))))))
def fnT:Tr Func:=(.node 122 (.node 62 (.node 32 (.node 17 (.node 10 (.node 6 (.node 4 (.leaf 3 Tryz.f3) (.node 5 (.leaf 4 Tryz.f4) (.leaf 5 Tryz.f5))) (.node 8 (.node 7 (.leaf 6 Tryz.f6) (.leaf 7 Tryz.f7)) (.node 9 (.leaf 8 Tryz.f8) (.leaf 9 Tryz.f9)))) (.node 13 (.node 11 (.leaf 10 Tryz.f10) (.node 12 (.leaf 11 Tryz.f11) (.leaf 12 Tryz.f12))) (.node 15 (.node 14 (.leaf 13 Tryz.f13) (.leaf 14 Tryz.f14)) (.node 16 (.leaf 15 Tryz.f15) (.leaf 16 Tryz.f16))))) (.node 24 (.node 20 (.node 18 (.leaf 17 Tryz.f17) (.node 19 (.leaf 18 Tryz.f18) (.leaf 19 Tryz.f19))) (.node 22 (.node 21 (.leaf 20 Tryz.f20) (.leaf 21 Tryz.f21)) (.node 23 (.leaf 22 Tryz.f22) (.leaf 23 Tryz.f23)))) (.node 28 (.node 26 (.node 25 (.leaf 24 Tryz.f24) (.leaf 25 Tryz.f25)) (.node 27 (.leaf 26 Tryz.f26) (.leaf 27 Tryz.f27))) (.node 30 (.node 29 (.leaf 28 Tryz.f28) (.leaf 29 Tryz.f29)) (.node 31 (.leaf 30 Tryz.f30) (.leaf 31 Tryz.f31)))))) (.node 47 (.node 39 (.node 35 (.node 33 (.leaf 32 Tryz.f32) (.node 34 (.leaf 33 Tryz.f33) (.leaf 34 Tryz.f34))) (.node 37 (.node 36 (.leaf 35 Tryz.f35) (.leaf 36 Tryz.f36)) (.node 38 (.leaf 37 Tryz.f37) (.leaf 38 Tryz.f38)))) (.node 43 (.node 41 (.node 40 (.leaf 39 Tryz.f39) (.leaf 40 Tryz.f40)) (.node 42 (.leaf 41 Tryz.f41) (.leaf 42 Tryz.f42))) (.node 45 (.node 44 (.leaf 43 Tryz.f43) (.leaf 44 Tryz.f44)) (.node 46 (.leaf 45 Tryz.f45) (.leaf 46 Tryz.f46))))) (.node 54 (.node 50 (.node 48 (.leaf 47 Tryz.f47) (.node 49 (.leaf 48 Tryz.f48) (.leaf 49 Tryz.f49))) (.node 52 (.node 51 (.leaf 50 Tryz.f50) (.leaf 51 Tryz.f51)) (.node 53 (.leaf 52 Tryz.f52) (.leaf 53 Tryz.f53)))) (.node 58 (.node 56 (.node 55 (.leaf 54 Tryz.f54) (.leaf 55 Tryz.f55)) (.node 57 (.leaf 56 Tryz.f56) (.leaf 57 Tryz.f57))) (.node 60 (.node 59 (.leaf 58 Tryz.f58) (.leaf 59 Tryz.f59)) (.node 61 (.leaf 60 Tryz.f60) (.leaf 61 Tryz.f61))))))) (.node 92 (.node 77 (.node 69 (.node 65 (.node 63 (.leaf 62 Tryz.f62) (.node 64 (.leaf 63 Tryz.f63) (.leaf 64 Tryz.f64))) (.node 67 (.node 66 (.leaf 65 Tryz.f65) (.leaf 66 Tryz.f66)) (.node 68 (.leaf 67 Tryz.f67) (.leaf 68 Tryz.f68)))) (.node 73 (.node 71 (.node 70 (.leaf 69 Tryz.f69) (.leaf 70 Tryz.f70)) (.node 72 (.leaf 71 Tryz.f71) (.leaf 72 Tryz.f72))) (.node 75 (.node 74 (.leaf 73 Tryz.f73) (.leaf 74 Tryz.f74)) (.node 76 (.leaf 75 Tryz.f75) (.leaf 76 Tryz.f76))))) (.node 84 (.node 80 (.node 78 (.leaf 77 Tryz.f77) (.node 79 (.leaf 78 Tryz.f78) (.leaf 79 Tryz.f79))) (.node 82 (.node 81 (.leaf 80 Tryz.f80) (.leaf 81 Tryz.f81)) (.node 83 (.leaf 82 Tryz.f82) (.leaf 83 Tryz.f83)))) (.node 88 (.node 86 (.node 85 (.leaf 84 Tryz.f84) (.leaf 85 Tryz.f85)) (.node 87 (.leaf 86 Tryz.f86) (.leaf 87 Tryz.f87))) (.node 90 (.node 89 (.leaf 88 Tryz.f88) (.leaf 89 Tryz.f89)) (.node 91 (.leaf 90 Tryz.f90) (.leaf 91 Tryz.f91)))))) (.node 107 (.node 99 (.node 95 (.node 93 (.leaf 92 Tryz.f92) (.node 94 (.leaf 93 Tryz.f93) (.leaf 94 Tryz.f94))) (.node 97 (.node 96 (.leaf 95 Tryz.f95) (.leaf 96 Tryz.f96)) (.node 98 (.leaf 97 Tryz.f97) (.leaf 98 Tryz.f98)))) (.node 103 (.node 101 (.node 100 (.leaf 99 Tryz.f99) (.leaf 100 Tryz.f100)) (.node 102 (.leaf 101 Tryz.f101) (.leaf 102 Tryz.f102))) (.node 105 (.node 104 (.leaf 103 Tryz.f103) (.leaf 104 Tryz.f104)) (.node 106 (.leaf 105 Tryz.f105) (.leaf 106 Tryz.f106))))) (.node 114 (.node 110 (.node 108 (.leaf 107 Tryz.f107) (.node 109 (.leaf 108 Tryz.f108) (.leaf 109 Tryz.f109))) (.node 112 (.node 111 (.leaf 110 Tryz.f110) (.leaf 111 Tryz.f111)) (.node 113 (.leaf 112 Tryz.f112) (.leaf 113 Tryz.f113)))) (.node 118 (.node 116 (.node 115 (.leaf 114 Tryz.f114) (.leaf 115 Tryz.f115)) (.node 117 (.leaf 116 Tryz.f116) (.leaf 117 Tryz.f117))) (.node 120 (.node 119 (.leaf 118 Tryz.f118) (.leaf 119 Tryz.f119)) (.node 121 (.leaf 120 Tryz.f120) (.leaf 121 Tryz.f121)))))))) (.node 181 (.node 151 (.node 136 (.node 129 (.node 125 (.node 123 (.leaf 122 Tryz.f122) (.node 124 (.leaf 123 Tryz.f123) (.leaf 124 Tryz.f124))) (.node 127 (.node 126 (.leaf 125 Tryz.f125) (.leaf 126 Tryz.f126)) (.node 128 (.leaf 127 Tryz.f127) (.leaf 128 Tryz.f128)))) (.node 132 (.node 130 (.leaf 129 Tryz.f129) (.node 131 (.leaf 130 Tryz.f130) (.leaf 131 Tryz.f131))) (.node 134 (.node 133 (.leaf 132 Tryz.f132) (.leaf 133 Tryz.f133)) (.node 135 (.leaf 134 Tryz.f134) (.leaf 135 Tryz.f135))))) (.node 143 (.node 139 (.node 137 (.leaf 136 Tryz.f136) (.node 138 (.leaf 137 Tryz.f137) (.leaf 138 Tryz.f138))) (.node 141 (.node 140 (.leaf 139 Tryz.f139) (.leaf 140 Tryz.f140)) (.node 142 (.leaf 141 Tryz.f141) (.leaf 142 Tryz.f142)))) (.node 147 (.node 145 (.node 144 (.leaf 143 Tryz.f143) (.leaf 144 Tryz.f144)) (.node 146 (.leaf 145 Tryz.f145) (.leaf 146 Tryz.f146))) (.node 149 (.node 148 (.leaf 147 Tryz.f147) (.leaf 148 Tryz.f148)) (.node 150 (.leaf 149 Tryz.f149) (.leaf 150 Tryz.f150)))))) (.node 166 (.node 158 (.node 154 (.node 152 (.leaf 151 Tryz.f151) (.node 153 (.leaf 152 Tryz.f152) (.leaf 153 Tryz.f153))) (.node 156 (.node 155 (.leaf 154 Tryz.f154) (.leaf 155 Tryz.f155)) (.node 157 (.leaf 156 Tryz.f156) (.leaf 157 Tryz.f157)))) (.node 162 (.node 160 (.node 159 (.leaf 158 Tryz.f158) (.leaf 159 Tryz.f159)) (.node 161 (.leaf 160 Tryz.f160) (.leaf 161 Tryz.f161))) (.node 164 (.node 163 (.leaf 162 Tryz.f162) (.leaf 163 Tryz.f163)) (.node 165 (.leaf 164 Tryz.f164) (.leaf 165 Tryz.f165))))) (.node 173 (.node 169 (.node 167 (.leaf 166 Tryz.f166) (.node 168 (.leaf 167 Tryz.f167) (.leaf 168 Tryz.f168))) (.node 171 (.node 170 (.leaf 169 Tryz.f169) (.leaf 170 Tryz.f170)) (.node 172 (.leaf 171 Tryz.f171) (.leaf 172 Tryz.f172)))) (.node 177 (.node 175 (.node 174 (.leaf 173 Tryz.f173) (.leaf 174 Tryz.f174)) (.node 176 (.leaf 175 Tryz.f175) (.leaf 176 Tryz.f176))) (.node 179 (.node 178 (.leaf 177 Tryz.f177) (.leaf 178 Tryz.f178)) (.node 180 (.leaf 179 Tryz.f179) (.leaf 180 Tryz.f180))))))) (.node 212 (.node 196 (.node 188 (.node 184 (.node 182 (.leaf 181 Tryz.f181) (.node 183 (.leaf 182 Tryz.f182) (.leaf 183 Tryz.f183))) (.node 186 (.node 185 (.leaf 184 Tryz.f184) (.leaf 185 Tryz.f185)) (.node 187 (.leaf 186 Tryz.f186) (.leaf 187 Tryz.f187)))) (.node 192 (.node 190 (.node 189 (.leaf 188 Tryz.f188) (.leaf 189 Tryz.f189)) (.node 191 (.leaf 190 Tryz.f190) (.leaf 191 Tryz.f191))) (.node 194 (.node 193 (.leaf 192 Tryz.f192) (.leaf 193 Tryz.f193)) (.node 195 (.leaf 194 Tryz.f194) (.leaf 195 Tryz.f195))))) (.node 203 (.node 199 (.node 197 (.leaf 196 Tryz.f196) (.node 198 (.leaf 197 Tryz.f197) (.leaf 198 Tryz.f198))) (.node 201 (.node 200 (.leaf 199 Tryz.f199) (.leaf 200 Tryz.f200)) (.node 202 (.leaf 201 Tryz.f201) (.leaf 202 Tryz.f202)))) (.node 208 (.node 206 (.node 204 (.leaf 203 Tryz.f203) (.leaf 204 Tryz.f204)) (.node 207 (.leaf 206 Tryz.f206) (.leaf 207 Tryz.f207))) (.node 210 (.node 209 (.leaf 208 Tryz.f208) (.leaf 209 Tryz.f209)) (.node 211 (.leaf 210 Tryz.f210) (.leaf 211 Tryz.f211)))))) (.node 230 (.node 222 (.node 217 (.node 215 (.leaf 212 Tryz.f212) (.node 216 (.leaf 215 Tryz.f215) (.leaf 216 Tryz.f216))) (.node 219 (.node 218 (.leaf 217 Tryz.f217) (.leaf 218 Tryz.f218)) (.node 220 (.leaf 219 Tryz.f219) (.leaf 220 Tryz.f220)))) (.node 226 (.node 224 (.node 223 (.leaf 222 Tryz.f222) (.leaf 223 Tryz.f223)) (.node 225 (.leaf 224 Tryz.f224) (.leaf 225 Tryz.f225))) (.node 228 (.node 227 (.leaf 226 Tryz.f226) (.leaf 227 Tryz.f227)) (.node 229 (.leaf 228 Tryz.f228) (.leaf 229 Tryz.f229))))) (.node 257 (.node 253 (.node 231 (.leaf 230 Tryz.f230) (.node 252 (.leaf 231 Tryz.f231) (.leaf 252 Tryz.f252))) (.node 255 (.node 254 (.leaf 253 Tryz.f253) (.leaf 254 Tryz.f254)) (.node 256 (.leaf 255 Tryz.f255) (.leaf 256 Tryz.f256)))) (.node 261 (.node 259 (.node 258 (.leaf 257 Tryz.f257) (.leaf 258 Tryz.f258)) (.node 260 (.leaf 259 Tryz.f259) (.leaf 260 Tryz.f260))) (.node 263 (.node 262 (.leaf 261 Tryz.f261) (.leaf 262 Tryz.f262)) (.node 264 (.leaf 263 Tryz.f263) (.leaf 264 Tryz.f264)))))))))
def encF (fl:Bool):(th:Th)->domT th->List (SV thy)
  | .ints,(x:Int)=> [.int fl .i64 (x)]
  | .u32s,(x:Int)=> [.int fl .u32 (x)]
  | .w64,(x:Int)=> [.int fl .u32 (x)]
  | .ins,(x:Ins)=> [.int fl .i64 (Ins.op (x)),.int fl .i64 (Ins.n (x)),.int fl .i64 (Ins.m (x))]
  | .sts,(x:St)=> [.int fl .i64 (St.pc (x)),.int fl .i64 (St.fuel (x)),.int fl .i64 (St.status (x)),.int fl .i64 (St.clause (x)),.psl Th.ints (St.stack (x)) false]
  | .bys,(x:Int)=> [.int false .u8 (x)]
  | .vals,(x:Val)=> [.int fl .i64 (Val.k (x)),.int fl .i64 (Val.n (x)),.psl Th.bys (Val.b (x)) false,.psl Th.vals (Val.l (x)) false]
  | .byss,(x:List (Int))=> [.psl Th.bys (x) false]
  | .opns,(x:Opn)=>((.int fl .i64 (Opn.pc (x)))::(.int fl .i64 (Opn.fuel (x)))::(.int fl .i64 (Opn.status (x)))::(.int fl .i64 (Opn.clause (x)))::(.psl Th.ints (Opn.top (x)) false)::(.int fl .i64 (Opn.depth (x)))::(.int fl .u8 (List.getD (Opn.rest (x)) 0 0))::(.int fl .u8 (List.getD (Opn.rest (x)) 1 0))::(.int fl .u8 (List.getD (Opn.rest (x)) 2 0))::(.int fl .u8 (List.getD (Opn.rest (x)) 3 0))::(.int fl .u8 (List.getD (Opn.rest (x)) 4 0))::(.int fl .u8 (List.getD (Opn.rest (x)) 5 0))::(.int fl .u8 (List.getD (Opn.rest (x)) 6 0))::(.int fl .u8 (List.getD (Opn.rest (x)) 7 0))::(.int fl .u8 (List.getD (Opn.rest (x)) 8 0))::(.int fl .u8 (List.getD (Opn.rest (x)) 9 0))::(.int fl .u8 (List.getD (Opn.rest (x)) 10 0))::(.int fl .u8 (List.getD (Opn.rest (x)) 11 0))::(.int fl .u8 (List.getD (Opn.rest (x)) 12 0))::(.int fl .u8 (List.getD (Opn.rest (x)) 13 0))::(.int fl .u8 (List.getD (Opn.rest (x)) 14 0))::(.int fl .u8 (List.getD (Opn.rest (x)) 15 0))::(.int fl .u8 (List.getD (Opn.rest (x)) 16 0))::(.int fl .u8 (List.getD (Opn.rest (x)) 17 0))::(.int fl .u8 (List.getD (Opn.rest (x)) 18 0))::(.int fl .u8 (List.getD (Opn.rest (x)) 19 0))::(.int fl .u8 (List.getD (Opn.rest (x)) 20 0))::(.int fl .u8 (List.getD (Opn.rest (x)) 21 0))::(.int fl .u8 (List.getD (Opn.rest (x)) 22 0))::(.int fl .u8 (List.getD (Opn.rest (x)) 23 0))::(.int fl .u8 (List.getD (Opn.rest (x)) 24 0))::(.int fl .u8 (List.getD (Opn.rest (x)) 25 0))::(.int fl .u8 (List.getD (Opn.rest (x)) 26 0))::(.int fl .u8 (List.getD (Opn.rest (x)) 27 0))::(.int fl .u8 (List.getD (Opn.rest (x)) 28 0))::(.int fl .u8 (List.getD (Opn.rest (x)) 29 0))::(.int fl .u8 (List.getD (Opn.rest (x)) 30 0))::(.int fl .u8 (List.getD (Opn.rest (x)) 31 0)):: [])
  | .envs,(x:Env)=>((.int fl .i64 (Env.has (x)))::(.int fl .i64 (Env.v0 (x)))::(.int fl .i64 (Env.v1 (x)))::(.int fl .i64 (Env.v2 (x)))::(.int fl .i64 (Env.v3 (x)))::(.int fl .i64 (Env.v4 (x)))::(.int fl .i64 (Env.v5 (x)))::(.int fl .i64 (Env.v6 (x)))::(.int fl .i64 (Env.v7 (x)))::(.int fl .i64 (Env.v8 (x)))::(.int fl .i64 (Env.v9 (x)))::(.int fl .i64 (Env.v10 (x)))::(.int fl .i64 (Env.v11 (x)))::(.int fl .i64 (Env.v12 (x)))::(.int fl .i64 (Env.v13 (x)))::(.int fl .i64 (Env.v14 (x)))::(.int fl .i64 (Env.v15 (x))):: [])
  | .digs,(x:List Int)=>((.int fl .u8 (List.getD (x) 0 0))::(.int fl .u8 (List.getD (x) 1 0))::(.int fl .u8 (List.getD (x) 2 0))::(.int fl .u8 (List.getD (x) 3 0))::(.int fl .u8 (List.getD (x) 4 0))::(.int fl .u8 (List.getD (x) 5 0))::(.int fl .u8 (List.getD (x) 6 0))::(.int fl .u8 (List.getD (x) 7 0))::(.int fl .u8 (List.getD (x) 8 0))::(.int fl .u8 (List.getD (x) 9 0))::(.int fl .u8 (List.getD (x) 10 0))::(.int fl .u8 (List.getD (x) 11 0))::(.int fl .u8 (List.getD (x) 12 0))::(.int fl .u8 (List.getD (x) 13 0))::(.int fl .u8 (List.getD (x) 14 0))::(.int fl .u8 (List.getD (x) 15 0))::(.int fl .u8 (List.getD (x) 16 0))::(.int fl .u8 (List.getD (x) 17 0))::(.int fl .u8 (List.getD (x) 18 0))::(.int fl .u8 (List.getD (x) 19 0))::(.int fl .u8 (List.getD (x) 20 0))::(.int fl .u8 (List.getD (x) 21 0))::(.int fl .u8 (List.getD (x) 22 0))::(.int fl .u8 (List.getD (x) 23 0))::(.int fl .u8 (List.getD (x) 24 0))::(.int fl .u8 (List.getD (x) 25 0))::(.int fl .u8 (List.getD (x) 26 0))::(.int fl .u8 (List.getD (x) 27 0))::(.int fl .u8 (List.getD (x) 28 0))::(.int fl .u8 (List.getD (x) 29 0))::(.int fl .u8 (List.getD (x) 30 0))::(.int fl .u8 (List.getD (x) 31 0)):: [])
def Zha:List (SV thy)->Option (Int)
  | [c0]=>(gI .i64 c0).bind fun a0=>some (a0)
  |_=>none
def Zhb:List (SV thy)->Option (Int)
  | [c0]=>(gI .u32 c0).bind fun a0=>some (a0)
  |_=>none
def Zk6:List (SV thy)->Option (Int)
  | [c0]=>(gI .u32 c0).bind fun a0=>some (a0)
  |_=>none
def Zk7:List (SV thy)->Option (Ins)
  | [c0,c1,c2]=>(gI .i64 c0).bind fun a0=>(gI .i64 c1).bind fun a1=>(gI .i64 c2).bind fun a2=>some (Ins.mk (a0) (a1) (a2))
  |_=>none
def Zk8:List (SV thy)->Option (St)
  | [c0,c1,c2,c3,c4]=>(gI .i64 c0).bind fun a0=>(gI .i64 c1).bind fun a1=>(gI .i64 c2).bind fun a2=>(gI .i64 c3).bind fun a3=>(Zhj (Y:=thy) Th.ints c4).bind fun a4=>some (St.mk (a0) (a1) (a2) (a3) (a4))
  |_=>none
def Zk9:List (SV thy)->Option (Int)
  | [c0]=>(gI .u8 c0).bind fun a0=>some (a0)
  |_=>none
def Zhc:List (SV thy)->Option (Val)
  | [c0,c1,c2,c3]=>(gI .i64 c0).bind fun a0=>(gI .i64 c1).bind fun a1=>(Zhj (Y:=thy) Th.bys c2).bind fun a2=>(Zhj (Y:=thy) Th.vals c3).bind fun a3=>some (Val.mk (a0) (a1) (a2) (a3))
  |_=>none
def Zhd:List (SV thy)->Option (List (Int))
  | [c0]=>(Zhj (Y:=thy) Th.bys c0).bind fun a0=>some (a0)
  |_=>none
def Zhe:List (SV thy)->Option (Opn)
  |(c0::c1::c2::c3::c4::c5::c6::c7::c8::c9::c10::c11::c12::c13::c14::c15::c16::c17::c18::c19::c20::c21::c22::c23::c24::c25::c26::c27::c28::c29::c30::c31::c32::c33::c34::c35::c36::c37:: [])=>(gI .i64 c0).bind fun a0=>(gI .i64 c1).bind fun a1=>(gI .i64 c2).bind fun a2=>(gI .i64 c3).bind fun a3=>(Zhj (Y:=thy) Th.ints c4).bind fun a4=>(gI .i64 c5).bind fun a5=>(gI .u8 c6).bind fun a6=>(gI .u8 c7).bind fun a7=>(gI .u8 c8).bind fun a8=>(gI .u8 c9).bind fun a9=>(gI .u8 c10).bind fun a10=>(gI .u8 c11).bind fun a11=>(gI .u8 c12).bind fun a12=>(gI .u8 c13).bind fun a13=>(gI .u8 c14).bind fun a14=>(gI .u8 c15).bind fun a15=>(gI .u8 c16).bind fun a16=>(gI .u8 c17).bind fun a17=>(gI .u8 c18).bind fun a18=>(gI .u8 c19).bind fun a19=>(gI .u8 c20).bind fun a20=>(gI .u8 c21).bind fun a21=>(gI .u8 c22).bind fun a22=>(gI .u8 c23).bind fun a23=>(gI .u8 c24).bind fun a24=>(gI .u8 c25).bind fun a25=>(gI .u8 c26).bind fun a26=>(gI .u8 c27).bind fun a27=>(gI .u8 c28).bind fun a28=>(gI .u8 c29).bind fun a29=>(gI .u8 c30).bind fun a30=>(gI .u8 c31).bind fun a31=>(gI .u8 c32).bind fun a32=>(gI .u8 c33).bind fun a33=>(gI .u8 c34).bind fun a34=>(gI .u8 c35).bind fun a35=>(gI .u8 c36).bind fun a36=>(gI .u8 c37).bind fun a37=>some (Opn.mk (a0) (a1) (a2) (a3) (a4) (a5) ([a6,a7,a8,a9,a10,a11,a12,a13,a14,a15,a16,a17,a18,a19,a20,a21,a22,a23,a24,a25,a26,a27,a28,a29,a30,a31,a32,a33,a34,a35,a36,a37]))
  |_=>none
def Zhf:List (SV thy)->Option (Env)
  |(c0::c1::c2::c3::c4::c5::c6::c7::c8::c9::c10::c11::c12::c13::c14::c15::c16:: [])=>(gI .i64 c0).bind fun a0=>(gI .i64 c1).bind fun a1=>(gI .i64 c2).bind fun a2=>(gI .i64 c3).bind fun a3=>(gI .i64 c4).bind fun a4=>(gI .i64 c5).bind fun a5=>(gI .i64 c6).bind fun a6=>(gI .i64 c7).bind fun a7=>(gI .i64 c8).bind fun a8=>(gI .i64 c9).bind fun a9=>(gI .i64 c10).bind fun a10=>(gI .i64 c11).bind fun a11=>(gI .i64 c12).bind fun a12=>(gI .i64 c13).bind fun a13=>(gI .i64 c14).bind fun a14=>(gI .i64 c15).bind fun a15=>(gI .i64 c16).bind fun a16=>some (Env.mk a0 a1 a2 a3 a4 a5 a6 a7 a8 a9 a10 a11 a12 a13 a14 a15 a16)
  |_=>none
def Zhg:List (SV thy)->Option (List Int)
  |(c0::c1::c2::c3::c4::c5::c6::c7::c8::c9::c10::c11::c12::c13::c14::c15::c16::c17::c18::c19::c20::c21::c22::c23::c24::c25::c26::c27::c28::c29::c30::c31:: [])=>(gI .u8 c0).bind fun a0=>(gI .u8 c1).bind fun a1=>(gI .u8 c2).bind fun a2=>(gI .u8 c3).bind fun a3=>(gI .u8 c4).bind fun a4=>(gI .u8 c5).bind fun a5=>(gI .u8 c6).bind fun a6=>(gI .u8 c7).bind fun a7=>(gI .u8 c8).bind fun a8=>(gI .u8 c9).bind fun a9=>(gI .u8 c10).bind fun a10=>(gI .u8 c11).bind fun a11=>(gI .u8 c12).bind fun a12=>(gI .u8 c13).bind fun a13=>(gI .u8 c14).bind fun a14=>(gI .u8 c15).bind fun a15=>(gI .u8 c16).bind fun a16=>(gI .u8 c17).bind fun a17=>(gI .u8 c18).bind fun a18=>(gI .u8 c19).bind fun a19=>(gI .u8 c20).bind fun a20=>(gI .u8 c21).bind fun a21=>(gI .u8 c22).bind fun a22=>(gI .u8 c23).bind fun a23=>(gI .u8 c24).bind fun a24=>(gI .u8 c25).bind fun a25=>(gI .u8 c26).bind fun a26=>(gI .u8 c27).bind fun a27=>(gI .u8 c28).bind fun a28=>(gI .u8 c29).bind fun a29=>(gI .u8 c30).bind fun a30=>(gI .u8 c31).bind fun a31=>some ([a0,a1,a2,a3,a4,a5,a6,a7,a8,a9,a10,a11,a12,a13,a14,a15,a16,a17,a18,a19,a20,a21,a22,a23,a24,a25,a26,a27,a28,a29,a30,a31])
  |_=>none
def decT:(th:Th)->List (SV thy)->Option (domT th)| .ints=>Zha| .u32s=>Zhb| .w64=>Zk6| .ins=>Zk7| .sts=>Zk8| .bys=>Zk9| .vals=>Zhc| .byss=>Zhd| .opns=>Zhe| .envs=>Zhf| .digs=>Zhg
def wT:Th->Nat| .ints=>1| .u32s=>1| .w64=>1| .ins=>3| .sts=>5| .bys=>1| .vals=>4| .byss=>1| .opns=>38| .envs=>17| .digs=>32
def elT:Th->TypeId| .ints=>3| .u32s=>143| .w64=>203| .ins=>58| .sts=>43| .bys=>5| .vals=>112| .byss=>109| .opns=>54| .envs=>26| .digs=>28
def thT:Tr Th:=(.node 54 (.node 26 (.node 5 (.leaf 3 Th.ints) (.leaf 5 Th.bys)) (.node 28 (.leaf 26 Th.envs) (.node 43 (.leaf 28 Th.digs) (.leaf 43 Th.sts)))) (.node 109 (.node 58 (.leaf 54 Th.opns) (.leaf 58 Th.ins)) (.node 112 (.leaf 109 Th.byss) (.node 143 (.leaf 112 Th.vals) (.leaf 143 Th.u32s)))))
def arrT:Tr Th:=(.leaf 203 Th.w64)
def smapT:Tr Th:= .nil
def binE (k f:Nat):Value×SV thy:=(.int .i64 k,.agg [.fn (.func f) [] []])
def Zxa (n:Nat):Option (SV thy):=match n with|0=>some (.pmap [binE 3 252,binE 4 253,binE 5 254,binE 6 255,binE 7 256,binE 8 257,binE 9 259,binE 10 260,binE 11 261])|_=>none
def extT (n:Nat):Option ExtK:=match n with|205=>some .indexByteS|213=>some .same|_=>none
theorem Ztr:∀f x,extT f=some x->ExtGood Tryz.prog f x:=by
  intro f x h
  unfold extT at h
  split at h
  · cases h;exact ⟨Tryz.f205,by kernel_rfl,by kernel_rfl,by kernel_rfl,by kernel_rfl,by kernel_rfl⟩
  · cases h;exact ⟨Tryz.f213,by kernel_rfl,by kernel_rfl,by kernel_rfl,by kernel_rfl,by kernel_rfl⟩
  · cases h
def eqsT:List TypeId:= [24,25,26,27,28,57,58,62,63,75,76,77,78,159,160,178,197,198,203,210,211,234,235,236,247,248,258,274,283,284,300,301,319,320,322,323,333,334,335,337,341,342,343,356,357]
def E:Eng thy:={P:=Tryz.prog,ty:=tyT.get,enc:=encF false,w:=wT,el:=elT,thOf:=thT.get,dec:=decT,glob:=Zxa,lit:=false,eqs:=eqsT,arrOf:=arrT.get,ext:=extT,smap:=smapT.get}
def EL:Eng thy:={P:=Tryz.prog,ty:=tyT.get,enc:=encF true,w:=wT,el:=elT,thOf:=thT.get,dec:=decT,glob:=Zxa,lit:=true,eqs:=eqsT,arrOf:=fun _=>none,ext:=extT}
def F0:Fns thy:={sums:=fun _=>none,fns:=fnT.get,loops:=fun _ _=>none}
theorem Zla {fl:Bool} {E':Eng thy} {cs:List (SV thy)} {x:Int} (h:Zha cs=some x):cs.length=1/\nidL 0 cs=true/\∀σ g (j:Nat) sv sv' v,cs[j]? =some sv->(encF fl .ints x)[j]? =some sv'->Den E' σ g sv v->Den E' σ g sv' v:=by
  unfold Zha at h
  split at h
  · rename_i c0
    obtain ⟨a0,h0,h⟩:=gD9.1 h
    cases h
    refine ⟨rfl,by simp only [nidL,Ze h0,Bool.and_self],fun σ g j sv sv' v e1 e2 hd=> ?_⟩
    match j,e1,e2 with
    |0,e1,e2=>cases e1;cases e2;exact Zd h0 hd
    |j+1,e1,e2=>cases e1
  · cases h
theorem Zlb {fl:Bool} {E':Eng thy} {cs:List (SV thy)} {x:Int} (h:Zhb cs=some x):cs.length=1/\nidL 0 cs=true/\∀σ g (j:Nat) sv sv' v,cs[j]? =some sv->(encF fl .u32s x)[j]? =some sv'->Den E' σ g sv v->Den E' σ g sv' v:=by
  unfold Zhb at h
  split at h
  · rename_i c0
    obtain ⟨a0,h0,h⟩:=gD9.1 h
    cases h
    refine ⟨rfl,by simp only [nidL,Ze h0,Bool.and_self],fun σ g j sv sv' v e1 e2 hd=> ?_⟩
    match j,e1,e2 with
    |0,e1,e2=>cases e1;cases e2;exact Zd h0 hd
    |j+1,e1,e2=>cases e1
  · cases h
theorem Zpv {fl:Bool} {E':Eng thy} {cs:List (SV thy)} {x:Int} (h:Zk6 cs=some x):cs.length=1/\nidL 0 cs=true/\∀σ g (j:Nat) sv sv' v,cs[j]? =some sv->(encF fl .w64 x)[j]? =some sv'->Den E' σ g sv v->Den E' σ g sv' v:=by
  unfold Zk6 at h
  split at h
  · rename_i c0
    obtain ⟨a0,h0,h⟩:=gD9.1 h
    cases h
    refine ⟨rfl,by simp only [nidL,Ze h0,Bool.and_self],fun σ g j sv sv' v e1 e2 hd=> ?_⟩
    match j,e1,e2 with
    |0,e1,e2=>cases e1;cases e2;exact Zd h0 hd
    |j+1,e1,e2=>cases e1
  · cases h
theorem Zpw {fl:Bool} {E':Eng thy} {cs:List (SV thy)} {x:Ins} (h:Zk7 cs=some x):cs.length=3/\nidL 0 cs=true/\∀σ g (j:Nat) sv sv' v,cs[j]? =some sv->(encF fl .ins x)[j]? =some sv'->Den E' σ g sv v->Den E' σ g sv' v:=by
  unfold Zk7 at h
  split at h
  · rename_i c0 c1 c2
    obtain ⟨a0,h0,h⟩:=gD9.1 h
    obtain ⟨a1,h1,h⟩:=gD9.1 h
    obtain ⟨a2,h2,h⟩:=gD9.1 h
    cases h
    refine ⟨rfl,by simp only [nidL,Ze h0,Ze h1,Ze h2,Bool.and_self],fun σ g j sv sv' v e1 e2 hd=> ?_⟩
    match j,e1,e2 with
    |0,e1,e2=>cases e1;cases e2;exact Zd h0 hd
    |1,e1,e2=>cases e1;cases e2;exact Zd h1 hd
    |2,e1,e2=>cases e1;cases e2;exact Zd h2 hd
    |j+3,e1,e2=>cases e1
  · cases h
theorem Zpx {fl:Bool} {E':Eng thy} {cs:List (SV thy)} {x:St} (h:Zk8 cs=some x):cs.length=5/\nidL 0 cs=true/\∀σ g (j:Nat) sv sv' v,cs[j]? =some sv->(encF fl .sts x)[j]? =some sv'->Den E' σ g sv v->Den E' σ g sv' v:=by
  unfold Zk8 at h
  split at h
  · rename_i c0 c1 c2 c3 c4
    obtain ⟨a0,h0,h⟩:=gD9.1 h
    obtain ⟨a1,h1,h⟩:=gD9.1 h
    obtain ⟨a2,h2,h⟩:=gD9.1 h
    obtain ⟨a3,h3,h⟩:=gD9.1 h
    obtain ⟨a4,h4,h⟩:=gD9.1 h
    cases h
    refine ⟨rfl,by simp only [nidL,Ze h0,Ze h1,Ze h2,Ze h3,Zek h4,Bool.and_self],fun σ g j sv sv' v e1 e2 hd=> ?_⟩
    match j,e1,e2 with
    |0,e1,e2=>cases e1;cases e2;exact Zd h0 hd
    |1,e1,e2=>cases e1;cases e2;exact Zd h1 hd
    |2,e1,e2=>cases e1;cases e2;exact Zd h2 hd
    |3,e1,e2=>cases e1;cases e2;exact Zd h3 hd
    |4,e1,e2=>cases e1;cases e2;exact Zej h4 hd
    |j+5,e1,e2=>cases e1
  · cases h
theorem Zpy {fl:Bool} {E':Eng thy} {cs:List (SV thy)} {x:Int} (h:Zk9 cs=some x):cs.length=1/\nidL 0 cs=true/\∀σ g (j:Nat) sv sv' v,cs[j]? =some sv->(encF fl .bys x)[j]? =some sv'->Den E' σ g sv v->Den E' σ g sv' v:=by
  unfold Zk9 at h
  split at h
  · rename_i c0
    obtain ⟨a0,h0,h⟩:=gD9.1 h
    cases h
    refine ⟨rfl,by simp only [nidL,Ze h0,Bool.and_self],fun σ g j sv sv' v e1 e2 hd=> ?_⟩
    match j,e1,e2 with
    |0,e1,e2=>cases e1;cases e2;exact Zd h0 hd
    |j+1,e1,e2=>cases e1
  · cases h
theorem Zlc {fl:Bool} {E':Eng thy} {cs:List (SV thy)} {x:Val} (h:Zhc cs=some x):cs.length=4/\nidL 0 cs=true/\∀σ g (j:Nat) sv sv' v,cs[j]? =some sv->(encF fl .vals x)[j]? =some sv'->Den E' σ g sv v->Den E' σ g sv' v:=by
  unfold Zhc at h
  split at h
  · rename_i c0 c1 c2 c3
    obtain ⟨a0,h0,h⟩:=gD9.1 h
    obtain ⟨a1,h1,h⟩:=gD9.1 h
    obtain ⟨a2,h2,h⟩:=gD9.1 h
    obtain ⟨a3,h3,h⟩:=gD9.1 h
    cases h
    refine ⟨rfl,by simp only [nidL,Ze h0,Ze h1,Zek h2,Zek h3,Bool.and_self],fun σ g j sv sv' v e1 e2 hd=> ?_⟩
    match j,e1,e2 with
    |0,e1,e2=>cases e1;cases e2;exact Zd h0 hd
    |1,e1,e2=>cases e1;cases e2;exact Zd h1 hd
    |2,e1,e2=>cases e1;cases e2;exact Zej h2 hd
    |3,e1,e2=>cases e1;cases e2;exact Zej h3 hd
    |j+4,e1,e2=>cases e1
  · cases h
theorem Zld {fl:Bool} {E':Eng thy} {cs:List (SV thy)} {x:List (Int)} (h:Zhd cs=some x):cs.length=1/\nidL 0 cs=true/\∀σ g (j:Nat) sv sv' v,cs[j]? =some sv->(encF fl .byss x)[j]? =some sv'->Den E' σ g sv v->Den E' σ g sv' v:=by
  unfold Zhd at h
  split at h
  · rename_i c0
    obtain ⟨a0,h0,h⟩:=gD9.1 h
    cases h
    refine ⟨rfl,by simp only [nidL,Zek h0,Bool.and_self],fun σ g j sv sv' v e1 e2 hd=> ?_⟩
    match j,e1,e2 with
    |0,e1,e2=>cases e1;cases e2;exact Zej h0 hd
    |j+1,e1,e2=>cases e1
  · cases h
theorem Zle {fl:Bool} {E':Eng thy} {cs:List (SV thy)} {x:Opn} (h:Zhe cs=some x):cs.length=38/\nidL 0 cs=true/\∀σ g (j:Nat) sv sv' v,cs[j]? =some sv->(encF fl .opns x)[j]? =some sv'->Den E' σ g sv v->Den E' σ g sv' v:=by
  unfold Zhe at h
  split at h
  · rename_i c0 c1 c2 c3 c4 c5 c6 c7 c8 c9 c10 c11 c12 c13 c14 c15 c16 c17 c18 c19 c20 c21 c22 c23 c24 c25 c26 c27 c28 c29 c30 c31 c32 c33 c34 c35 c36 c37
    obtain ⟨a0,h0,h⟩:=gD9.1 h
    obtain ⟨a1,h1,h⟩:=gD9.1 h
    obtain ⟨a2,h2,h⟩:=gD9.1 h
    obtain ⟨a3,h3,h⟩:=gD9.1 h
    obtain ⟨a4,h4,h⟩:=gD9.1 h
    obtain ⟨a5,h5,h⟩:=gD9.1 h
    obtain ⟨a6,h6,h⟩:=gD9.1 h
    obtain ⟨a7,h7,h⟩:=gD9.1 h
    obtain ⟨a8,h8,h⟩:=gD9.1 h
    obtain ⟨a9,h9,h⟩:=gD9.1 h
    obtain ⟨a10,h10,h⟩:=gD9.1 h
    obtain ⟨a11,h11,h⟩:=gD9.1 h
    obtain ⟨a12,h12,h⟩:=gD9.1 h
    obtain ⟨a13,h13,h⟩:=gD9.1 h
    obtain ⟨a14,h14,h⟩:=gD9.1 h
    obtain ⟨a15,h15,h⟩:=gD9.1 h
    obtain ⟨a16,h16,h⟩:=gD9.1 h
    obtain ⟨a17,h17,h⟩:=gD9.1 h
    obtain ⟨a18,h18,h⟩:=gD9.1 h
    obtain ⟨a19,h19,h⟩:=gD9.1 h
    obtain ⟨a20,h20,h⟩:=gD9.1 h
    obtain ⟨a21,h21,h⟩:=gD9.1 h
    obtain ⟨a22,h22,h⟩:=gD9.1 h
    obtain ⟨a23,h23,h⟩:=gD9.1 h
    obtain ⟨a24,h24,h⟩:=gD9.1 h
    obtain ⟨a25,h25,h⟩:=gD9.1 h
    obtain ⟨a26,h26,h⟩:=gD9.1 h
    obtain ⟨a27,h27,h⟩:=gD9.1 h
    obtain ⟨a28,h28,h⟩:=gD9.1 h
    obtain ⟨a29,h29,h⟩:=gD9.1 h
    obtain ⟨a30,h30,h⟩:=gD9.1 h
    obtain ⟨a31,h31,h⟩:=gD9.1 h
    obtain ⟨a32,h32,h⟩:=gD9.1 h
    obtain ⟨a33,h33,h⟩:=gD9.1 h
    obtain ⟨a34,h34,h⟩:=gD9.1 h
    obtain ⟨a35,h35,h⟩:=gD9.1 h
    obtain ⟨a36,h36,h⟩:=gD9.1 h
    obtain ⟨a37,h37,h⟩:=gD9.1 h
    cases h
    refine ⟨rfl,by simp only [nidL,Ze h0,Ze h1,Ze h2,Ze h3,Zek h4,Ze h5,Ze h6,Ze h7,Ze h8,Ze h9,Ze h10,Ze h11,Ze h12,Ze h13,Ze h14,Ze h15,Ze h16,Ze h17,Ze h18,Ze h19,Ze h20,Ze h21,Ze h22,Ze h23,Ze h24,Ze h25,Ze h26,Ze h27,Ze h28,Ze h29,Ze h30,Ze h31,Ze h32,Ze h33,Ze h34,Ze h35,Ze h36,Ze h37,Bool.and_self],fun σ g j sv sv' v e1 e2 hd=> ?_⟩
    match j,e1,e2 with
    |0,e1,e2=>cases e1;cases e2;exact Zd h0 hd
    |1,e1,e2=>cases e1;cases e2;exact Zd h1 hd
    |2,e1,e2=>cases e1;cases e2;exact Zd h2 hd
    |3,e1,e2=>cases e1;cases e2;exact Zd h3 hd
    |4,e1,e2=>cases e1;cases e2;exact Zej h4 hd
    |5,e1,e2=>cases e1;cases e2;exact Zd h5 hd
    |6,e1,e2=>cases e1;cases e2;exact Zd h6 hd
    |7,e1,e2=>cases e1;cases e2;exact Zd h7 hd
    |8,e1,e2=>cases e1;cases e2;exact Zd h8 hd
    |9,e1,e2=>cases e1;cases e2;exact Zd h9 hd
    |10,e1,e2=>cases e1;cases e2;exact Zd h10 hd
    |11,e1,e2=>cases e1;cases e2;exact Zd h11 hd
    |12,e1,e2=>cases e1;cases e2;exact Zd h12 hd
    |13,e1,e2=>cases e1;cases e2;exact Zd h13 hd
    |14,e1,e2=>cases e1;cases e2;exact Zd h14 hd
    |15,e1,e2=>cases e1;cases e2;exact Zd h15 hd
    |16,e1,e2=>cases e1;cases e2;exact Zd h16 hd
    |17,e1,e2=>cases e1;cases e2;exact Zd h17 hd
    |18,e1,e2=>cases e1;cases e2;exact Zd h18 hd
    |19,e1,e2=>cases e1;cases e2;exact Zd h19 hd
    |20,e1,e2=>cases e1;cases e2;exact Zd h20 hd
    |21,e1,e2=>cases e1;cases e2;exact Zd h21 hd
    |22,e1,e2=>cases e1;cases e2;exact Zd h22 hd
    |23,e1,e2=>cases e1;cases e2;exact Zd h23 hd
    |24,e1,e2=>cases e1;cases e2;exact Zd h24 hd
    |25,e1,e2=>cases e1;cases e2;exact Zd h25 hd
    |26,e1,e2=>cases e1;cases e2;exact Zd h26 hd
    |27,e1,e2=>cases e1;cases e2;exact Zd h27 hd
    |28,e1,e2=>cases e1;cases e2;exact Zd h28 hd
    |29,e1,e2=>cases e1;cases e2;exact Zd h29 hd
    |30,e1,e2=>cases e1;cases e2;exact Zd h30 hd
    |31,e1,e2=>cases e1;cases e2;exact Zd h31 hd
    |32,e1,e2=>cases e1;cases e2;exact Zd h32 hd
    |33,e1,e2=>cases e1;cases e2;exact Zd h33 hd
    |34,e1,e2=>cases e1;cases e2;exact Zd h34 hd
    |35,e1,e2=>cases e1;cases e2;exact Zd h35 hd
    |36,e1,e2=>cases e1;cases e2;exact Zd h36 hd
    |37,e1,e2=>cases e1;cases e2;exact Zd h37 hd
    |j+38,e1,e2=>cases e1
  · cases h
theorem Zlf {fl:Bool} {E':Eng thy} {cs:List (SV thy)} {x:Env} (h:Zhf cs=some x):cs.length=17/\nidL 0 cs=true/\∀σ g (j:Nat) sv sv' v,cs[j]? =some sv->(encF fl .envs x)[j]? =some sv'->Den E' σ g sv v->Den E' σ g sv' v:=by
  unfold Zhf at h
  split at h
  · rename_i c0 c1 c2 c3 c4 c5 c6 c7 c8 c9 c10 c11 c12 c13 c14 c15 c16
    obtain ⟨a0,h0,h⟩:=gD9.1 h
    obtain ⟨a1,h1,h⟩:=gD9.1 h
    obtain ⟨a2,h2,h⟩:=gD9.1 h
    obtain ⟨a3,h3,h⟩:=gD9.1 h
    obtain ⟨a4,h4,h⟩:=gD9.1 h
    obtain ⟨a5,h5,h⟩:=gD9.1 h
    obtain ⟨a6,h6,h⟩:=gD9.1 h
    obtain ⟨a7,h7,h⟩:=gD9.1 h
    obtain ⟨a8,h8,h⟩:=gD9.1 h
    obtain ⟨a9,h9,h⟩:=gD9.1 h
    obtain ⟨a10,h10,h⟩:=gD9.1 h
    obtain ⟨a11,h11,h⟩:=gD9.1 h
    obtain ⟨a12,h12,h⟩:=gD9.1 h
    obtain ⟨a13,h13,h⟩:=gD9.1 h
    obtain ⟨a14,h14,h⟩:=gD9.1 h
    obtain ⟨a15,h15,h⟩:=gD9.1 h
    obtain ⟨a16,h16,h⟩:=gD9.1 h
    cases h
    refine ⟨rfl,by simp only [nidL,Ze h0,Ze h1,Ze h2,Ze h3,Ze h4,Ze h5,Ze h6,Ze h7,Ze h8,Ze h9,Ze h10,Ze h11,Ze h12,Ze h13,Ze h14,Ze h15,Ze h16,Bool.and_self],fun σ g j sv sv' v e1 e2 hd=> ?_⟩
    match j,e1,e2 with
    |0,e1,e2=>cases e1;cases e2;exact Zd h0 hd
    |1,e1,e2=>cases e1;cases e2;exact Zd h1 hd
    |2,e1,e2=>cases e1;cases e2;exact Zd h2 hd
    |3,e1,e2=>cases e1;cases e2;exact Zd h3 hd
    |4,e1,e2=>cases e1;cases e2;exact Zd h4 hd
    |5,e1,e2=>cases e1;cases e2;exact Zd h5 hd
    |6,e1,e2=>cases e1;cases e2;exact Zd h6 hd
    |7,e1,e2=>cases e1;cases e2;exact Zd h7 hd
    |8,e1,e2=>cases e1;cases e2;exact Zd h8 hd
    |9,e1,e2=>cases e1;cases e2;exact Zd h9 hd
    |10,e1,e2=>cases e1;cases e2;exact Zd h10 hd
    |11,e1,e2=>cases e1;cases e2;exact Zd h11 hd
    |12,e1,e2=>cases e1;cases e2;exact Zd h12 hd
    |13,e1,e2=>cases e1;cases e2;exact Zd h13 hd
    |14,e1,e2=>cases e1;cases e2;exact Zd h14 hd
    |15,e1,e2=>cases e1;cases e2;exact Zd h15 hd
    |16,e1,e2=>cases e1;cases e2;exact Zd h16 hd
    |j+17,e1,e2=>cases e1
  · cases h
theorem Zlg {fl:Bool} {E':Eng thy} {cs:List (SV thy)} {x:List Int} (h:Zhg cs=some x):cs.length=32/\nidL 0 cs=true/\∀σ g (j:Nat) sv sv' v,cs[j]? =some sv->(encF fl .digs x)[j]? =some sv'->Den E' σ g sv v->Den E' σ g sv' v:=by
  unfold Zhg at h
  split at h
  · rename_i c0 c1 c2 c3 c4 c5 c6 c7 c8 c9 c10 c11 c12 c13 c14 c15 c16 c17 c18 c19 c20 c21 c22 c23 c24 c25 c26 c27 c28 c29 c30 c31
    obtain ⟨a0,h0,h⟩:=gD9.1 h
    obtain ⟨a1,h1,h⟩:=gD9.1 h
    obtain ⟨a2,h2,h⟩:=gD9.1 h
    obtain ⟨a3,h3,h⟩:=gD9.1 h
    obtain ⟨a4,h4,h⟩:=gD9.1 h
    obtain ⟨a5,h5,h⟩:=gD9.1 h
    obtain ⟨a6,h6,h⟩:=gD9.1 h
    obtain ⟨a7,h7,h⟩:=gD9.1 h
    obtain ⟨a8,h8,h⟩:=gD9.1 h
    obtain ⟨a9,h9,h⟩:=gD9.1 h
    obtain ⟨a10,h10,h⟩:=gD9.1 h
    obtain ⟨a11,h11,h⟩:=gD9.1 h
    obtain ⟨a12,h12,h⟩:=gD9.1 h
    obtain ⟨a13,h13,h⟩:=gD9.1 h
    obtain ⟨a14,h14,h⟩:=gD9.1 h
    obtain ⟨a15,h15,h⟩:=gD9.1 h
    obtain ⟨a16,h16,h⟩:=gD9.1 h
    obtain ⟨a17,h17,h⟩:=gD9.1 h
    obtain ⟨a18,h18,h⟩:=gD9.1 h
    obtain ⟨a19,h19,h⟩:=gD9.1 h
    obtain ⟨a20,h20,h⟩:=gD9.1 h
    obtain ⟨a21,h21,h⟩:=gD9.1 h
    obtain ⟨a22,h22,h⟩:=gD9.1 h
    obtain ⟨a23,h23,h⟩:=gD9.1 h
    obtain ⟨a24,h24,h⟩:=gD9.1 h
    obtain ⟨a25,h25,h⟩:=gD9.1 h
    obtain ⟨a26,h26,h⟩:=gD9.1 h
    obtain ⟨a27,h27,h⟩:=gD9.1 h
    obtain ⟨a28,h28,h⟩:=gD9.1 h
    obtain ⟨a29,h29,h⟩:=gD9.1 h
    obtain ⟨a30,h30,h⟩:=gD9.1 h
    obtain ⟨a31,h31,h⟩:=gD9.1 h
    cases h
    refine ⟨rfl,by simp only [nidL,Ze h0,Ze h1,Ze h2,Ze h3,Ze h4,Ze h5,Ze h6,Ze h7,Ze h8,Ze h9,Ze h10,Ze h11,Ze h12,Ze h13,Ze h14,Ze h15,Ze h16,Ze h17,Ze h18,Ze h19,Ze h20,Ze h21,Ze h22,Ze h23,Ze h24,Ze h25,Ze h26,Ze h27,Ze h28,Ze h29,Ze h30,Ze h31,Bool.and_self],fun σ g j sv sv' v e1 e2 hd=> ?_⟩
    match j,e1,e2 with
    |0,e1,e2=>cases e1;cases e2;exact Zd h0 hd
    |1,e1,e2=>cases e1;cases e2;exact Zd h1 hd
    |2,e1,e2=>cases e1;cases e2;exact Zd h2 hd
    |3,e1,e2=>cases e1;cases e2;exact Zd h3 hd
    |4,e1,e2=>cases e1;cases e2;exact Zd h4 hd
    |5,e1,e2=>cases e1;cases e2;exact Zd h5 hd
    |6,e1,e2=>cases e1;cases e2;exact Zd h6 hd
    |7,e1,e2=>cases e1;cases e2;exact Zd h7 hd
    |8,e1,e2=>cases e1;cases e2;exact Zd h8 hd
    |9,e1,e2=>cases e1;cases e2;exact Zd h9 hd
    |10,e1,e2=>cases e1;cases e2;exact Zd h10 hd
    |11,e1,e2=>cases e1;cases e2;exact Zd h11 hd
    |12,e1,e2=>cases e1;cases e2;exact Zd h12 hd
    |13,e1,e2=>cases e1;cases e2;exact Zd h13 hd
    |14,e1,e2=>cases e1;cases e2;exact Zd h14 hd
    |15,e1,e2=>cases e1;cases e2;exact Zd h15 hd
    |16,e1,e2=>cases e1;cases e2;exact Zd h16 hd
    |17,e1,e2=>cases e1;cases e2;exact Zd h17 hd
    |18,e1,e2=>cases e1;cases e2;exact Zd h18 hd
    |19,e1,e2=>cases e1;cases e2;exact Zd h19 hd
    |20,e1,e2=>cases e1;cases e2;exact Zd h20 hd
    |21,e1,e2=>cases e1;cases e2;exact Zd h21 hd
    |22,e1,e2=>cases e1;cases e2;exact Zd h22 hd
    |23,e1,e2=>cases e1;cases e2;exact Zd h23 hd
    |24,e1,e2=>cases e1;cases e2;exact Zd h24 hd
    |25,e1,e2=>cases e1;cases e2;exact Zd h25 hd
    |26,e1,e2=>cases e1;cases e2;exact Zd h26 hd
    |27,e1,e2=>cases e1;cases e2;exact Zd h27 hd
    |28,e1,e2=>cases e1;cases e2;exact Zd h28 hd
    |29,e1,e2=>cases e1;cases e2;exact Zd h29 hd
    |30,e1,e2=>cases e1;cases e2;exact Zd h30 hd
    |31,e1,e2=>cases e1;cases e2;exact Zd h31 hd
    |j+32,e1,e2=>cases e1
  · cases h
theorem Zlh {fl:Bool} {E':Eng thy}:∀(th:Th) {cs:List (SV thy)} {x:domT th},decT th cs=some x->cs.length=wT th/\nidL 0 cs=true/\∀σ g (j:Nat) sv sv' v,cs[j]? =some sv->(encF fl th x)[j]? =some sv'->Den E' σ g sv v->Den E' σ g sv' v
  | .ints,_,_,h=>Zla h
  | .u32s,_,_,h=>Zlb h
  | .w64,_,_,h=>Zpv h
  | .ins,_,_,h=>Zpw h
  | .sts,_,_,h=>Zpx h
  | .bys,_,_,h=>Zpy h
  | .vals,_,_,h=>Zlc h
  | .byss,_,_,h=>Zld h
  | .opns,_,_,h=>Zle h
  | .envs,_,_,h=>Zlf h
  | .digs,_,_,h=>Zlg h
theorem Zy2:tyT.All (TyOk Tryz.prog):=by repeat' (first|refine ⟨?_,?_⟩|kernel_rfl)
theorem Zts:fnT.All (FnOk Tryz.prog):=by repeat' (first|refine ⟨?_,?_⟩|kernel_rfl)
theorem Z3c:thT.All (fun t th=>(tyT.get t).map (fun i=>i.size)=some (wT th)):=⟨⟨⟨(by kernel_rfl:(tyT.get 3).map (fun i=>i.size)=some (wT Th.ints)),(by kernel_rfl:(tyT.get 5).map (fun i=>i.size)=some (wT Th.bys))⟩,⟨(by kernel_rfl:(tyT.get 26).map (fun i=>i.size)=some (wT Th.envs)),⟨(by kernel_rfl:(tyT.get 28).map (fun i=>i.size)=some (wT Th.digs)),(by kernel_rfl:(tyT.get 43).map (fun i=>i.size)=some (wT Th.sts))⟩⟩⟩,⟨⟨(by kernel_rfl:(tyT.get 54).map (fun i=>i.size)=some (wT Th.opns)),(by kernel_rfl:(tyT.get 58).map (fun i=>i.size)=some (wT Th.ins))⟩,⟨(by kernel_rfl:(tyT.get 109).map (fun i=>i.size)=some (wT Th.byss)),⟨(by kernel_rfl:(tyT.get 112).map (fun i=>i.size)=some (wT Th.vals)),(by kernel_rfl:(tyT.get 143).map (fun i=>i.size)=some (wT Th.u32s))⟩⟩⟩⟩
theorem Z06:arrT.All (fun t th=>elT th=t):=rfl
theorem Ztt:∀t∈eqsT,Tryz.prog.stoodInHeld t=false/\Tryz.prog.eqGuardType Tryz.prog.depth t=false:=by
  unfold eqsT
  simp only [List.forall_mem_cons]
  repeat' (first|refine ⟨?_,?_⟩|kernel_rfl|exact fun _ h=>nomatch h)
end
section
open Go
theorem Zgd {th:Th} {cs:List (SV thy)} {x:domT th} (h:decT th cs=some x):nidL 0 cs=true:=(Zlh (fl:=false) (E':=E) th h).2.1
theorem Zym (el:TypeId) (th:Th) (i:TyI) (h:thT.get el=some th) (h2:tyT.get el=some i):i.size=wT th:=by
 have:=Tr.get_all Z3c h
 simp only [h2,Option.map_some,Option.some.injEq] at this
 exact this
theorem E_ok:EngOk E where
 ty t i h:=((Tr.get_all Zy2 h:TyOk Tryz.prog t i)).ty
 enc th x:=by cases th<;>rfl
 pos th:=by cases th<;>decide
 dec th cs x h:=let ⟨a,_,b⟩:=Zlh th h;⟨a,b⟩
 leaf th x:=by cases th<;>rfl
 thOf el th i h h2:=Zym el th i h h2
 encI i th x:=by cases th<;>rfl
 mix:=by kernel_rfl
 arr t th h:=Tr.get_all (p:=fun t th=>elT th=t) Z06 h
 eqs t h:=Ztt t (memB_iff.1 h)
 ext:=Ztr
theorem EL_ok:EngOk EL where
 ty t i h:=((Tr.get_all Zy2 h:TyOk Tryz.prog t i)).ty
 enc th x:=by cases th<;>rfl
 pos th:=by cases th<;>decide
 dec th cs x h:=let ⟨a,_,b⟩:=Zlh th h;⟨a,b⟩
 leaf th x:=by cases th<;>rfl
 thOf el th i h h2:=Zym el th i h h2
 encI i th x:=by cases th<;>rfl
 mix:=E_ok.mix
 arr t th h:=by cases h
 eqs t h:=Ztt t (memB_iff.1 h)
 ext:=Ztr
theorem F0_ok:FnsOk E F0 where
 sumG f S h:=by cases h
 fnG f fn h:=(Tr.get_all Zts h:FnOk Tryz.prog f fn).good
 sum f S h:=by cases h
 fn f fn h:=(Tr.get_all Zts h:FnOk Tryz.prog f fn).1
 loop f j L h:=by cases h
theorem Zi {f:Nat} {fn:Func} (h:fnT.get f=some fn):FnGood Tryz.prog f:=(Tr.get_all Zts h:FnOk Tryz.prog f fn).good
def dR (th:Th):Dc E (domT th):=dRow E_ok th fun _ _ h=>Zgd (th:=th) h
end
section
open Go.ChangeShapes Go.WideShapes Go.ChangeAt Go.RowKit
theorem Tryz.own:ownKnob Tryz.prog.godebug=none:=by kernel_rfl
theorem Tryz.laidOut:laidOutB Tryz.prog=true:=by kernel_rfl
section
variable {H:Type} {enc:TypeId × Value->H} {P:Program}
theorem Zgb (hl:laidOutB P=true) {W W':World} {sp':Nat->Bool}:∀{ts:List TypeId} {vs:List Value} {ds:List (DataW H)} {ps:List MemPlace},(ts.all fun t=>P.readableRec t&&decide (t<P.types.size))=true->
 DataW.TrodAll enc P W 0 (fun _=>true) true ts vs ds ps->(∀x∈ps,W.sameAt W' x)->(∀x∈ps,sp' x.block=true)->DataW.TrodAll enc P W' 0 sp' true ts vs ds ps:=by
 intro ts
 induction ts with
 |nil=>
  intro vs ds ps _ h _ _
  obtain ⟨rfl,rfl,rfl⟩:=trodAll_nil h
  rfl
 |cons t ts ih=>
  intro vs ds ps ht h hs hp
  obtain ⟨v,vs',d,ds',p,q,rfl,rfl,rfl,hd,hr⟩:=trodAll_cons h
  simp only [List.all_cons,Bool.and_eq_true,decide_eq_true_eq] at ht
  exact ⟨p,q,WideElems.Trod_stays hl ht.1.1 ht.1.2 hd (fun x hx=>hs x (by simp [hx])) (fun x hx=>hp x (by simp [hx])),
   ih (by simpa using ht.2) hr (fun x hx=>hs x (by simp [hx])) (fun x hx=>hp x (by simp [hx])),rfl⟩
theorem Zrb {f:Func} {s:ChangeSpec} {handsOn again:Bool} {W W':World} {args:Array Value} {ds gs:List (DataW H)} {before:List MemPlace} {tb:TypeId} (hl:laidOutB P=true) (hr:f.resultTypes= #[tb]) (hb:P.underlying tb=some .bool)
 (hp:(f.params.toList.all fun t=>P.readableRec t&&decide (t<P.types.size))=true) (hv:s.vars= []) (hW:DataW.Whole enc P f.params.toList s.vars false W args.toList ds gs before)
 (hres:(s.fn H (ds++gs)).results= [.lit (.bool true)]) (harg:(s.fn H (ds++gs)).args=ds) (hvar:(s.fn H (ds++gs)).vars= []) (hx:Ext W W'):
 s.post enc P f false true handsOn again W args (.bool true) W':=by
 have hbel:Below W.heap.size W W':=hx
 have hlt:∀p∈before,p.block<W.heap.size:=fun p hp=>hW.lt p hp
 have hW':=hW
 obtain ⟨pa,pv,hA,hV,hbe,hz,hn⟩:=hW
 rw [hv] at hV
 obtain ⟨hg,hpv⟩:=trodVars_none hV
 subst hpv
 rw [List.append_nil] at hbe
 subst hbe
 have hargs:∀sp:Nat->Bool,(∀p∈before,sp p.block=true)->DataW.TrodAll enc P W' 0 sp true f.params.toList args.toList (s.fn H (ds++gs)).args before:=fun sp h=>by
  rw [harg]
  exact Zgb hl hp hA (fun x hx=>hbel.same (hlt x hx)) h
 have hvars:∀sp:Nat->Bool,DataW.TrodVars enc P W' sp s.vars (s.fn H (ds++gs)).vars []:=fun sp=>by rw [hv,hvar];rfl
 have hrs:∀(b:Nat) (sp:Nat->Bool) (hd:Bool),DataW.TrodAll enc P W' b sp hd f.resultTypes.toList ((Value.bool true).resultList f.resultTypes.size) (s.fn H (ds++gs)).results []:=fun b sp hd=>by
  rw [hr,hres]
  exact ⟨[],[],shut_bool hb true,rfl,rfl⟩
 refine ⟨ds,gs,before,[],before,[],hW',hrs _ _ _,hargs _ (fun p hp=>by simpa using hlt p hp),hvars _,World.keptBut_mono (fun p hp=>⟨hp,?_⟩) (hbel.frame (· ∈before)),fun _=> ?_⟩
 · simpa using hp
 · refine ⟨?_,_,_,([]++before)++ [],⟨[]++before,[],trodAll_append (hargs _ (fun _ _=>rfl)) (hrs _ _ _),hvars _,rfl,?_,?_⟩,?_⟩
   · intro j t r hj hrj
     rw [hr] at hj hrj
     match j,hj,hrj with
     |0,hj,hrj=>
      obtain rfl:tb=t:=by simpa using hj
      obtain rfl:Value.bool true=r:=by simpa [Value.resultList] using hrj
      exact okWide_bool_mk hb true
     |j+1,hj,hrj=>simp at hj
   · intro b off hp
     have hin:MemPlace.cell b off∈before:=by simpa using hp
     rw [hbel.frozen (hlt _ hin)]
     exact hz b off hin
   · intro ha;cases ha
   · intro p hp _
     simpa using hp
end
end
section
open Go.ChangeShapes Go.WideShapes Go.ChangeAt Go.RowKit
theorem Zfi {H:Type} {p:Lit×DataW H}:∀{l:List (Lit×DataW H)},p∈l.foldr DataW.insert []↔p∈l
 | []=>Iff.rfl
 |x::l=>by
  rw [List.foldr_cons,(insert_perm x _).mem_iff,List.mem_cons,List.mem_cons,Zfi]
theorem Zwo {P:Program} {t:TypeId} {q:IntKind} (ht:P.underlying t=some (.int q)) {v:Value} {n:Int} (h:keyOf P t v=some (.int q n)):v= .int q n:=by
 unfold keyOf at h
 rw [ht] at h
 simp only [] at h
 unfold mapKey at h
 rw [ht] at h
 cases v with
 |int q' m=>
  simp only [] at h
  split at h
  · rename_i hq
    cases h
    rw [hq.1]
  · cases h
 |_=>simp at h
end
section
open Go.ChangeShapes Go.WideShapes Go.ChangeAt Go.RowKit
section
variable {Y:Thy} {E:Eng Y}
def gTop (w:World):GH :=
  { cell:=fun r o=>w.cell? ⟨r,o,none⟩
    obj:=fun r=>match w.heap[r]? with | some (.map es _)=>some es | _=>none }
theorem Z0l {w:World} (hg:∀ n sv,E.glob n=some sv->∀ (j:Nat) s,sv.cells[j]?=some s->∃ v,w.cell? ⟨n,j,none⟩=some v/\Den E (fun _=>none) (gTop w) s v):Inv E w.heap.size σ0 hp0 (gTop w) w:=by
  refine ⟨fun r o v hv=>hv,fun r es hv=>?_,(fun b x hx=>by cases hx),fun b b' r z z' h1=>absurd rfl h1,(fun b r z hs=>by cases hs),(fun b x r z o v hx=>by cases hx),(fun b x r z hx=>by cases hx),hg⟩
  have hv:(match w.heap[r]? with | some (.map es _)=>some es | _=>none)=some es:=hv
  split at hv
  · rename_i es' c hc
    cases hv
    exact ⟨c,hc⟩
  · cases hv
end
section
variable {H:Type} {enc:TypeId × Value->H} {P:Program} {w:World} {spare:Nat->Bool} {held:Bool} {fuel:Nat} {t:TypeId} {cs:List Value} {x:DataW H × List MemPlace}
theorem Zd2 {k:IntKind} (ht:P.underlying t=some (.int k)) (h:DataW.trod enc P w 0 spare held fuel t cs=some x):∃n,cs= [.int k n]/\(Lit.int k n).wf=true:=by
 cases fuel with
 |zero=>simp [DataW.trod] at h
 |succ m=>
  unfold DataW.trod at h
  rw [ht] at h
  split at h<;>simp_all
theorem Zis {Y:Thy} {E:Eng Y} {th:Y.Th} {e:TypeId} (hw:∀ a,(E.enc th a).length=E.w th) (hp:0<E.w th) (ht:P.underlying t=some (.slice e)) (hk:P.cellsOf e=E.w th)
 (h:DataW.trod enc P w 0 spare held fuel t cs=some x) (hR:∀ n,n<fuel->∀ cs' y,DataW.trod enc P w 0 spare held n e cs'=some y->∃ a,∀ (j:Nat) sv,(E.enc th a)[j]?=some sv->∃ v,cs'[j]?=some v/\Den E σ0 (gTop w) sv v) :
 ∃ sv l,cs=[sv]/\Den E σ0 (gTop w) (.psl th l false) sv:=by
 rcases DataW.trod_slice ht h with ⟨h0,_⟩ | ⟨a,len,cap,elems,rest,n,hf,hcs,_,_,hl,hc,hel,hcell,_⟩
 · exact ⟨_,[],h0,.psl (l:=[]) (fun _ _=>undef) (Nat.le_refl _) (by unfold maxLen; omega) (by simp) (fun _=>rfl) (by simp) (by simp)⟩
 · have hall:∀ i,i<len->∃ p:List Value×Y.dom th,w.cells? 0 (a.add (i * E.w th)) (E.w th)=some p.1/\∀ (j:Nat) sv,(E.enc th p.2)[j]?=some sv->∃ v,p.1[j]?=some v/\Den E σ0 (gTop w) sv v:=by
    intro i hi
    have h1:=hcell i hi
    rw [gB9 (by omega)] at h1
    obtain ⟨cs',hc1,hc2⟩:=gD9.1 h1
    obtain ⟨y,hy⟩:=hR n (by omega) cs' _ hc2
    exact ⟨(cs',y),by rw [← hk]; exact hc1,hy⟩
   rcases Nat.eq_zero_or_pos len with h0 | h0
   · subst h0
     exact ⟨_,[],hcs,.psl (l:=[]) (fun _ _=>undef) hl hc (by simp) (fun h=>by cases h) (fun hp=>by simp at hp) (by simp)⟩
   have:Inhabited (List Value×Y.dom th):=⟨(hall 0 h0).choose⟩
   obtain ⟨f,hfam⟩:=Go.Deep.choose_lt (α:=List Value×Y.dom th) hall
   have hb0:a.spot=none:=by
    have h1:=(hfam 0 h0).1
    obtain ⟨_,hlen,hcl⟩:=World.cells?_some h1
    have h2:=hcl 0 hp
    rw [gB9 (by omega)] at h2
    simp only [Nat.zero_mul,Addr.add,if_true] at h2
    unfold World.cell? at h2
    split at h2
    · split at h2
      · cases h2
      · rename_i hs; simpa using hs
    · cases h2
   obtain ⟨b,o,s⟩:=a
   obtain rfl:s=none:=hb0
   have cell:∀ i,i<len->∀ j,j<E.w th->w.cell? ⟨b,o+i * E.w th+j,none⟩=(f i).1[j]?:=by
    intro i hi j hj
    obtain ⟨_,hlen,hcl⟩:=World.cells?_some (hfam i hi).1
    have:=hcl j hj
    rw [Go.Deep.add_add,Ye] at this
    rw [Nat.add_assoc]; exact this
   have hlen:((List.range len).map fun i=>(f i).2).length=len:=by simp
   have get:∀ (i:Nat) y,((List.range len).map fun i=>(f i).2)[i]?=some y->i<len/\(f i).2=y:=by
    intro i y hi
    have hilt:i<len:=by have:=(gA9.1 hi).1; simpa using this
    exact ⟨hilt,by simpa [hilt] using hi⟩
   refine ⟨.slice (some ⟨b,o,none⟩) len cap,(List.range len).map fun i=>(f i).2,hcs,?_⟩
   have:=Den.psl (E:=E) (σ:=σ0) (g:=gTop w) (th:=th) (l:=(List.range len).map fun i=>(f i).2) (full:=false) (base:=some ⟨b,o,none⟩) (c:=cap) (fun i j=>(f i).1.getD j undef) (by omega) hc (by simp) (fun h=>by cases h)
    (fun _=>⟨b,o,rfl,fun i y hy j hj=>?_⟩) (fun i y hy j sv hj=>?_)
   · rw [hlen] at this; exact this
   · obtain ⟨hi,_⟩:=get i y hy
     rw [hw] at hj
     obtain ⟨_,hl2,_⟩:=World.cells?_some (hfam i hi).1
     show w.cell? _=_
     rw [cell i hi j hj,List.getD_eq_getElem?_getD,gB9 (by omega)]; rfl
   · obtain ⟨hi,rfl⟩:=get i y hy
     obtain ⟨v,h1,h2⟩:=(hfam i hi).2 j sv hj
     rw [List.getD_eq_getElem?_getD,h1]; exact h2
theorem Zkj {Y:Thy} {E:Eng Y} {th:Y.Th} {e:TypeId} (hw:∀a,(E.enc th a).length=E.w th) (hp:0<E.w th) (ht:P.underlying t=some (.slice e)) (hk:P.cellsOf e=E.w th)
 (h:DataW.trod enc P w 0 spare held fuel t cs=some x) (hR:∀n cs' y,DataW.trod enc P w 0 spare held n e cs'=some y->∃a,∀(j:Nat) sv,(E.enc th a)[j]? =some sv->∃v,cs'[j]? =some v/\Den E σ0 (gTop w) sv v):
 ∃sv l,cs= [sv]/\Den E σ0 (gTop w) (.psl th l false) sv:=by
 exact Zis hw hp ht hk h fun n _ cs' y hy=>hR n cs' y hy
theorem Zit {v:Value} {n:Nat} (h:v.cells.toList.length=n) (hn:n≠1):v= .agg v.cells.toList.toArray:=by
 cases v<;>simp_all [Value.cells]
end
end
section
open Go.ChangeShapes Go.WideShapes Go.ChangeAt Go.RowKit
theorem gBin:Tryz.prog.globalNamed "wagonpool/tvm.binaries" =some 0:=by kernel_rfl
theorem tBin:(Tryz.prog.globals[0]?).map (·.type)=some 123:=by kernel_rfl
abbrev Z20:List (String×DataW Unit):= [("wagonpool/tvm.binaries",Rows.laid_wagonpool_tvm_binaries)]
def binD:List (Lit×DataW (List UInt8)):= [(.int .i64 3,.agg [.held [119,97,103,111,110,112,111,111,108,47,109,111,110,101,121,46,65,100,100]]),(.int .i64 4,.agg [.held [119,97,103,111,110,112,111,111,108,47,109,111,110,101,121,46,83,117,98]]),(.int .i64 5,.agg [.held [119,97,103,111,110,112,111,111,108,47,109,111,110,101,121,46,77,117,108]]),(.int .i64 6,.agg [.held [119,97,103,111,110,112,111,111,108,47,116,118,109,46,98,105,110,97,114,105,101,115,36,49]]),(.int .i64 7,.agg [.held [119,97,103,111,110,112,111,111,108,47,116,118,109,46,98,105,110,97,114,105,101,115,36,50]]),(.int .i64 8,.agg [.held [119,97,103,111,110,112,111,111,108,47,116,118,109,46,98,105,110,97,114,105,101,115,36,51]]),(.int .i64 9,.agg [.held [119,97,103,111,110,112,111,111,108,47,116,118,109,46,98,105,110,97,114,105,101,115,36,52]]),(.int .i64 10,.agg [.held [119,97,103,111,110,112,111,111,108,47,116,118,109,46,98,105,110,97,114,105,101,115,36,53]]),(.int .i64 11,.agg [.held [119,97,103,111,110,112,111,111,108,47,116,118,109,46,98,105,110,97,114,105,101,115,36,54]])]
theorem Z0o {w:World} {n:Nat} {v:Value} {y:DataW (List UInt8)×List MemPlace} {b:UInt8} {r:List UInt8} {f0:FuncId} (hone:((List.range Tryz.prog.funcs.size).filter fun f=>(Tryz.prog.funcs[f]?).any (·.name.toUTF8.data.toList==b::r))= [f0])
 (h:WideElems.elemAt (funcToken Tryz.prog) Tryz.prog w 0 (fun _=>true) true n 121 v=some y) (hy:y.1= .agg [.held (b::r)]):v= .agg #[.func (.func f0) #[] #[]]:=by
 unfold WideElems.elemAt at h
 split at h
 · rename_i hfo
   obtain ⟨xs,m,rfl,rfl,hl,hxl,hf⟩:=DataW.trod_struct Tryz.underlying121 h
   have c103:Tryz.prog.cellsOf 121=1:=by kernel_rfl
   have hx1:xs.length=1:=by simpa using hxl
   have h0:=hf 0 _ rfl
   have c101:Tryz.prog.cellsOf 119=1:=by kernel_rfl
   obtain ⟨x0,rfl⟩:∃x0,xs= [x0]:=by
    match xs,hx1 with
    | [x0],_=>exact ⟨x0,rfl⟩
   simp only [List.map_cons,List.map_nil,DataW.agg.injEq,List.cons.injEq,and_true] at hy
   cases v with
   |agg cs=>
    have hcs:cs.toList.length=1:=by rw [<-c103];simpa [Value.cells] using hl
    obtain ⟨v0,hv0⟩:∃v0,cs.toList= [v0]:=by
     match hq:cs.toList,hcs with
     | [v0],_=>exact ⟨v0,rfl⟩
    have h0:DataW.trod (funcToken Tryz.prog) Tryz.prog w 0 (fun _=>true) true m 119 [v0]=some x0:=by
     have h0':DataW.trod (funcToken Tryz.prog) Tryz.prog w 0 (fun _=>true) true m 119 ((((Value.agg cs).cells.toList).drop 0).take (Tryz.prog.cellsOf 119))=some x0:=h0
     rw [c101] at h0'
     have e:(Value.agg cs).cells.toList= [v0]:=hv0
     rw [e] at h0'
     exact h0'
    have hx0:x0=(.held (b::r),x0.2):=by rw [<-hy]
    rw [hx0] at h0
    have:=func_of_trod (f0:=f0) Tryz.underlying119 hone h0
    subst this
    rw [show cs= #[.func (.func f0) #[] #[]] from by rw [<-Array.toList_inj];exact hv0]
   |_=>exact absurd hfo (by simp [Value.formed,Tryz.underlying121])
 · cases h
theorem Zs1 {v:Value} {n:Int} (h:keyOf Tryz.prog 3 v=some (.int .i64 n)):v= .int .i64 n:=Zwo Tryz.underlying3 h
abbrev Zpj:List (Value×SV thy):= [binE 3 252,binE 4 253,binE 5 254,binE 6 255,binE 7 256,binE 8 257,binE 9 259,binE 10 260,binE 11 261]
def Zko (j:Nat):Nat:= [252,253,254,255,256,257,259,260,261].getD j 0
theorem Zd7:∀(j:Nat) p,Zpj[j]? =some p->p=binE (j+3) (Zko j)
 |0,p,h=>by cases h;rfl
 |1,p,h=>by cases h;rfl
 |2,p,h=>by cases h;rfl
 |3,p,h=>by cases h;rfl
 |4,p,h=>by cases h;rfl
 |5,p,h=>by cases h;rfl
 |6,p,h=>by cases h;rfl
 |7,p,h=>by cases h;rfl
 |8,p,h=>by cases h;rfl
 |j+9,p,h=>by simp [Zpj] at h
theorem Z0p:∀(j:Nat) p,Zpj[j]? =some p->Zpj[j]? =some (binE (j+3) (Zko j)):=fun j p h=>by rw [h,Zd7 j p h]
set_option maxRecDepth 100000 in
theorem Z0q {W:World} (h:laidMetH Tryz.prog Z20 W):∃v,W.cell? ⟨0,0,none⟩=some v/\Den E (fun _=>none) (gTop W) (.pmap [binE 3 252,binE 4 253,binE 5 254,binE 6 255,binE 7 256,binE 8 257,binE 9 259,binE 10 260,binE 11 261]) v:=by
 obtain ⟨g,t,cs,fuel,p,hg,ht,hv,hd⟩:=h.funcs (List.mem_singleton.2 rfl)
 obtain rfl:=Option.some.inj (gBin.symm.trans hg)
 obtain rfl:=Option.some.inj (tBin.symm.trans ht)
 have hd':DataW.trod (funcToken Tryz.prog) Tryz.prog W 0 (fun _=>true) true fuel 123 cs.toList=some (.map binD,p):=hd
 rcases WideElems.open_map Tryz.underlying123 hd' with ⟨_,hx⟩|⟨b,es,clk,n,rfl,hcs,hb,_,F,hx⟩
 · simp at hx
 simp only [Prod.mk.injEq,DataW.map.injEq] at hx
 have hmem:∀q,q∈binD↔q∈es.toList.map (WideElems.rg Tryz.prog 3 (WideElems.elemAt (funcToken Tryz.prog) Tryz.prog W 0 (fun _=>true) true n 121)):=fun q=>by rw [hx.1];exact Zfi
 have hcell:W.cell? ⟨0,0,none⟩=some (.map (some b)):=by
  have:=World.var?_cell hg hv 0
  rw [Array.eq_one_of_toList hcs] at this
  simpa using this
 refine ⟨_,hcell,?_⟩
 have entry:∀e∈es.toList,∃y,keyOf Tryz.prog 3 e.key=some (WideElems.rg Tryz.prog 3 (WideElems.elemAt (funcToken Tryz.prog) Tryz.prog W 0 (fun _=>true) true n 121) e).1/\
  WideElems.elemAt (funcToken Tryz.prog) Tryz.prog W 0 (fun _=>true) true n 121 e.val=some y/\y.1=(WideElems.rg Tryz.prog 3 (WideElems.elemAt (funcToken Tryz.prog) Tryz.prog W 0 (fun _=>true) true n 121) e).2:=by
  intro e he
  obtain ⟨z,hz⟩:=F.reads e he
  have hrg:WideElems.rg Tryz.prog 3 (WideElems.elemAt (funcToken Tryz.prog) Tryz.prog W 0 (fun _=>true) true n 121) e=z:=by unfold WideElems.rg;rw [hz];rfl
  rw [hrg]
  unfold WideElems.rd at hz
  simp only [gD9,Option.map_eq_some_iff] at hz
  obtain ⟨key,h1,y,h2,rfl⟩:=hz
  exact ⟨y,h1,h2,rfl⟩
 have one:∀(j:Nat) (k f0:Nat) (nm:List UInt8),binD[j]? =some (.int .i64 k,.agg [.held nm])->(∃b r,nm=b::r)->((List.range Tryz.prog.funcs.size).filter fun f=>(Tryz.prog.funcs[f]?).any (·.name.toUTF8.data.toList==nm))= [f0]->
  ∀e∈es.toList,WideElems.rg Tryz.prog 3 (WideElems.elemAt (funcToken Tryz.prog) Tryz.prog W 0 (fun _=>true) true n 121) e=(.int .i64 k,.agg [.held nm])->e.key= .int .i64 k/\e.val= .agg #[.func (.func f0) #[] #[]]:=by
  rintro j k f0 nm hj ⟨b0,r0,rfl⟩ hone e he hrg
  obtain ⟨y,h1,h2,h3⟩:=entry e he
  rw [hrg] at h1 h3
  exact ⟨Zs1 h1,Z0o hone h2 h3⟩
 have all:∀e∈es.toList,∃(j:Nat) (k f0:Nat),Zpj[j]? =some (binE k f0)/\e.key= .int .i64 k/\e.val= .agg #[.func (.func f0) #[] #[]]:=by
  intro e he
  have hq:WideElems.rg Tryz.prog 3 (WideElems.elemAt (funcToken Tryz.prog) Tryz.prog W 0 (fun _=>true) true n 121) e∈binD:=(hmem _).2 (List.mem_map_of_mem he)
  simp only [binD,List.mem_cons,List.not_mem_nil,or_false] at hq
  rcases hq with hq|hq|hq|hq|hq|hq|hq|hq|hq
  · exact ⟨0,3,252,rfl,one 0 3 252 _ rfl ⟨_,_,rfl⟩ (by kernel_rfl) e he hq⟩
  · exact ⟨1,4,253,rfl,one 1 4 253 _ rfl ⟨_,_,rfl⟩ (by kernel_rfl) e he hq⟩
  · exact ⟨2,5,254,rfl,one 2 5 254 _ rfl ⟨_,_,rfl⟩ (by kernel_rfl) e he hq⟩
  · exact ⟨3,6,255,rfl,one 3 6 255 _ rfl ⟨_,_,rfl⟩ (by kernel_rfl) e he hq⟩
  · exact ⟨4,7,256,rfl,one 4 7 256 _ rfl ⟨_,_,rfl⟩ (by kernel_rfl) e he hq⟩
  · exact ⟨5,8,257,rfl,one 5 8 257 _ rfl ⟨_,_,rfl⟩ (by kernel_rfl) e he hq⟩
  · exact ⟨6,9,259,rfl,one 6 9 259 _ rfl ⟨_,_,rfl⟩ (by kernel_rfl) e he hq⟩
  · exact ⟨7,10,260,rfl,one 7 10 260 _ rfl ⟨_,_,rfl⟩ (by kernel_rfl) e he hq⟩
  · exact ⟨8,11,261,rfl,one 8 11 261 _ rfl ⟨_,_,rfl⟩ (by kernel_rfl) e he hq⟩
 have back:∀(j:Nat) (k f0:Nat),Zpj[j]? =some (binE k f0)->∃e∈es.toList,e.key= .int .i64 k:=by
  intro j k f0 hj
  obtain ⟨d,hd⟩:∃d,((.int .i64 k:Lit),d)∈binD:=by
   match j,hj with
   |0,hj=>cases hj;exact ⟨_,by simp [binD];try rfl⟩
   |1,hj=>cases hj;exact ⟨_,by simp [binD];try rfl⟩
   |2,hj=>cases hj;exact ⟨_,by simp [binD];try rfl⟩
   |3,hj=>cases hj;exact ⟨_,by simp [binD];try rfl⟩
   |4,hj=>cases hj;exact ⟨_,by simp [binD];try rfl⟩
   |5,hj=>cases hj;exact ⟨_,by simp [binD];try rfl⟩
   |6,hj=>cases hj;exact ⟨_,by simp [binD];try rfl⟩
   |7,hj=>cases hj;exact ⟨_,by simp [binD];try rfl⟩
   |8,hj=>cases hj;exact ⟨_,by simp [binD];try rfl⟩
   |j+9,hj=>simp at hj
  obtain ⟨e,he,hrg⟩:=List.mem_map.1 ((hmem _).1 hd)
  obtain ⟨y,h1,h2,h3⟩:=entry e he
  rw [hrg] at h1
  exact ⟨e,he,Zs1 h1⟩
 refine Den.pmap (ents:=es) (fun j=> .agg #[.func (.func (Zko j)) #[] #[]]) (some .i64) ?_ ?_ ?_ ?_ ?_ ?_
 · show (match W.heap[b]? with|some (.map es _)=>some es|_=>none)=some es
   rw [hb]
 · intro j k sv hj
   have:=Zd7 j _ hj
   cases this
   exact ⟨_,rfl⟩
 · intro j j' k sv sv' hj hj'
   have e1:=congrArg Prod.fst (Zd7 j _ hj)
   have e2:=congrArg Prod.fst (Zd7 j' _ hj')
   have e3:(Value.int .i64 ((j+3:Nat):Int))= .int .i64 ((j'+3:Nat):Int):=e1.symm.trans e2
   injection e3 with _ e4
   omega
 · intro e he
   obtain ⟨j,k,f0,hj,hk,hv⟩:=all e he
   have e1:=Zd7 j _ hj
   refine ⟨j,.agg [.fn (.func f0) [] []],by rw [hk];exact hj,?_⟩
   rw [hv]
   have e2:=congrArg Prod.snd e1
   have e2:(SV.agg [SV.fn (.func f0) [] []]:SV thy)= .agg [.fn (.func (Zko j)) [] []]:=e2
   injection e2 with e3
   injection e3 with e4 _
   injection e4 with e5
   rw [e5]
 · intro j k sv hj
   have e1:=congrArg Prod.fst (Zd7 j _ hj)
   obtain ⟨e,he,hk⟩:=back j (j+3) (Zko j) (Z0p j _ hj)
   exact ⟨e,he,hk.trans e1.symm⟩
 · intro j k sv hj
   have e1:=congrArg Prod.snd (Zd7 j _ hj)
   have e1:sv= .agg [.fn (.func (Zko j)) [] []]:=e1
   rw [e1]
   refine .agg (fun _=> .func (.func (Zko j)) #[] #[]) rfl (fun q hq=> ?_) (fun q sv' hq=> ?_)
   · match q,hq with
     |0,_=>rfl
   · match q,hq with
     |0,hq=>
      cases hq
      exact .fn (fun _=>undef) (fun _=>undef) rfl (fun q hq=>absurd hq (Nat.not_lt_zero _)) (fun q sv hq=>by simp at hq) rfl (fun q hq=>absurd hq (Nat.not_lt_zero _)) (fun q sv hq=>by simp at hq)
end
section
open Go.RowKit
set_option maxHeartbeats 400000 in
theorem Zul (a:Int) (w:World) (h: -9007199254740992<=a) (h2:a<=9007199254740992):
 Calls Tryz.prog 264 #[.int .i64 a] w fun e w'=>e= .returned (.int .u64 a.natAbs)/\w=w':=by
 go_enter Tryz.func264,Tryz.ntmps264
 go_wp2_with fail
 all_goals go_ret
 · exact ⟨Zsj (by simp only [IntKind.wrap_u64];omega),rfl⟩
 · exact ⟨Zsj (by omega),rfl⟩
set_option maxHeartbeats 400000 in
theorem Zy6 (a:Addr) (n c:Nat) (zs:List Int) (w:World) (hl:zs.length=n) (hn:n<=1000) (hc:∀i,i<n->w.cell? (a.add i)=some (.int .i64 (zs.getD i 0))):
 Calls Tryz.prog 262 #[.slice (some a) n c] w fun e w'=>e= .returned (.bool (zs.all inR))/\w=w':=by
 have H:=Lib.hid hl
 clear hl
 go_enter Tryz.func262,Tryz.ntmps262
 go_wp2_with fail
 go_loop [4,7] (fun _ i=>∃k:Nat,k<=n/\i= .int .i64 k/\(zs.take k).all inR=true) (fun _ i=>n-(intOf i).toNat)
 case atStart=>exact ⟨0,Nat.zero_le _,rfl,rfl⟩
 case round=>
  obtain ⟨k,hk,rfl,hr⟩:=hrel
  have HR:=Lib.hid hr
  clear hr
  by_cases hlt:k<n
  · have hcell:=hc k hlt
    have hg:zs.getD k 0=zs[k]'(by rw [H.out];exact hlt):=by simp [H.out,hlt]
    have hts:zs.take (k+1)=zs.take k++ [zs.getD k 0]:=by
     rw [List.take_succ_eq_append_getElem (by rw [H.out];exact hlt),hg]
    have hall:inR (zs.getD k 0)=false->zs.all inR=false:=by
     intro h
     rw [Bool.eq_false_iff]
     intro hh
     have:=(List.all_eq_true.1 hh) (zs.getD k 0) (by rw [hg];exact List.getElem_mem _)
     rw [h] at this
     cases this
    have HT:=Lib.hid hts
    have HA:=Lib.hid hall
    clear hts hg hc hall
    generalize zs.getD k 0=z at*
    by_cases hz1:z< -9007199254740992
    · go_wp2_with fail
      go_ret
      exact ⟨Zgv (HA.out (inR_not.2 (by omega))).symm,rfl⟩
    · by_cases hz2:9007199254740992<z
      · go_wp2_with fail
        go_ret
        exact ⟨Zgv (HA.out (inR_not.2 (by omega))).symm,rfl⟩
      · go_wp2_with fail
        go_round
        case rel=>exact ⟨k+1,by omega,by go_num,by rw [HT.out];simp [HR.out,inR_iff];omega⟩
        case measure=>simp [intOf];omega
  · have hkn:zs.length<=k:=by rw [H.out];omega
    have HK:=Lib.hid hkn
    clear hkn
    go_wp2_with fail
    go_ret
    exact ⟨Zgv (by rw [<-HR.out,List.take_of_length_le HK.out]),rfl⟩
set_option maxHeartbeats 400000 in
theorem Zfp (a:Int) (w:World):
 Calls Tryz.prog 263 #[.int .i64 a] w fun e w'=>e= .returned (.tuple #[.int .i64 (rngF a).1,.int .i64 (rngF a).2])/\Ext w w':=by
 cases h:inR a
 all_goals
  have e0: [a].all inR=inR a:=by simp
  rw [h] at e0
  have H:=Lib.hid h
  have E0:=Lib.hid e0
  clear h e0
  go_enter Tryz.func263,Tryz.ntmps263
  go_wp2_with fail
  refine (Zy6 _ 1 _ [a] _ rfl (by omega) ?_).mono ?_
  · intro i hi
    obtain rfl:i=0:=by omega
    simp [go_sem]
  rw [E0.out]
  rintro e w1 ⟨rfl,rfl⟩
  go_wp2_with fail
  go_ret2
  exact ⟨Z5 (by simp [rngF,H.out]) (by simp [rngF,H.out]),(Ext.refl _).alloc _⟩
set_option maxHeartbeats 400000 in
theorem X4 (a b:Int) (w:World) (A:Addr) (c:Nat) (h0:w.cell? (A.add 0)=some (.int .i64 a)) (h1:w.cell? (A.add 1)=some (.int .i64 b)) (r:Bool) (hr:Hid ((inR a&&inR b)=r)):
 Calls Tryz.prog 262 #[.slice (some A) 2 c] w fun e w'=>e= .returned (.bool r)/\w=w':=by
 refine (Zy6 A 2 c [a,b] w rfl (by omega) ?_).mono fun e w' h=> ?_
 · intro i hi
   match i,hi with
   |0,_=>exact h0
   |1,_=>exact h1
 · simpa [hr.out] using h
set_option maxHeartbeats 400000 in
theorem Z1k (a b:Int) (w:World):
 Calls Tryz.prog 252 #[.int .i64 a,.int .i64 b] w fun e w'=>e= .returned (.tuple #[.int .i64 (addF a b).1,.int .i64 (addF a b).2])/\Ext w w':=by
 cases h:inR a&&inR b
 · have H:=Lib.hid h
   clear h
   go_enter Tryz.func252,Tryz.ntmps252
   go_wp2_with fail
   refine (X4 a b _ _ _ (by simp [go_sem]) (by simp [go_sem]) _ H).mono ?_
   rintro e w1 ⟨rfl,rfl⟩
   go_wp2_with fail
   go_ret2
   exact ⟨Z5 (by simp only [addF,H.out];rfl) (by simp only [addF,H.out];rfl),(Ext.refl _).alloc _⟩
 · have H:=Lib.hid h
   have hb:=h
   simp only [Bool.and_eq_true,inR_iff] at hb
   obtain ⟨⟨h1,h2⟩,h3,h4⟩:=hb
   clear h
   go_enter Tryz.func252,Tryz.ntmps252
   go_wp2_with fail
   refine (X4 a b _ _ _ (by simp [go_sem]) (by simp [go_sem]) _ H).mono ?_
   rintro e w1 ⟨rfl,rfl⟩
   go_wp2_with fail
   refine (Zfp _ _).mono ?_
   rintro e w1 ⟨rfl,hx⟩
   go_wp2_with fail
   go_ret2
   exact ⟨Z5 (by simp only [addF,H.out];rfl) (by simp only [addF,H.out];rfl),((Ext.refl _).alloc _).trans hx⟩
set_option maxHeartbeats 400000 in
theorem Z1l (a b:Int) (w:World):
 Calls Tryz.prog 253 #[.int .i64 a,.int .i64 b] w fun e w'=>e= .returned (.tuple #[.int .i64 (subF a b).1,.int .i64 (subF a b).2])/\Ext w w':=by
 cases h:inR a&&inR b
 · have H:=Lib.hid h
   clear h
   go_enter Tryz.func253,Tryz.ntmps253
   go_wp2_with fail
   refine (X4 a b _ _ _ (by simp [go_sem]) (by simp [go_sem]) _ H).mono ?_
   rintro e w1 ⟨rfl,rfl⟩
   go_wp2_with fail
   go_ret2
   exact ⟨Z5 (by simp only [subF,H.out];rfl) (by simp only [subF,H.out];rfl),(Ext.refl _).alloc _⟩
 · have H:=Lib.hid h
   have hb:=h
   simp only [Bool.and_eq_true,inR_iff] at hb
   obtain ⟨⟨h1,h2⟩,h3,h4⟩:=hb
   clear h
   go_enter Tryz.func253,Tryz.ntmps253
   go_wp2_with fail
   refine (X4 a b _ _ _ (by simp [go_sem]) (by simp [go_sem]) _ H).mono ?_
   rintro e w1 ⟨rfl,rfl⟩
   go_wp2_with fail
   refine (Zfp _ _).mono ?_
   rintro e w1 ⟨rfl,hx⟩
   go_wp2_with fail
   go_ret2
   exact ⟨Z5 (by simp only [subF,H.out];rfl) (by simp only [subF,H.out];rfl),((Ext.refl _).alloc _).trans hx⟩
set_option maxHeartbeats 400000 in
theorem Zum (x y:Nat) (hx:x<=9007199254740992) (hy:y<=9007199254740992) (w:World):
 Calls Tryz.prog 89 #[.int .u64 x,.int .u64 y] w fun e w'=>e= .returned (.tuple #[.int .u64 (x*y/18446744073709551616:Nat),.int .u64 (x*y%18446744073709551616:Nat)])/\w=w':=by
 go_enter Tryz.func89,Tryz.ntmps89
 go_wp2_with fail
 go_ret2
 refine ⟨Z5 ?_ (Z4b x y),rfl⟩
 rw [Zsf x (by omega),Zsf y (by omega)]
 have h:=Z4a (x%4294967296) (x/4294967296) (y%4294967296) (y/4294967296) (by omega) (by omega) (by omega) (by omega)
 rw [Zse x y]
 exact h
set_option maxHeartbeats 400000 in
theorem Z1m (a b:Int) (w:World):
 Calls Tryz.prog 254 #[.int .i64 a,.int .i64 b] w fun e w'=>e= .returned (.tuple #[.int .i64 (mulF a b).1,.int .i64 (mulF a b).2])/\Ext w w':=by
 cases h:inR a&&inR b
 · have H:=Lib.hid h
   clear h
   go_enter Tryz.func254,Tryz.ntmps254
   go_wp2_with fail
   refine (X4 a b _ _ _ (by simp [go_sem]) (by simp [go_sem]) _ H).mono ?_
   rintro e w1 ⟨rfl,rfl⟩
   go_wp2_with fail
   go_ret2
   exact ⟨Z5 (by simp only [mulF,H.out];rfl) (by simp only [mulF,H.out];rfl),(Ext.refl _).alloc _⟩
 · have H:=Lib.hid h
   have hb:=h
   simp only [Bool.and_eq_true,inR_iff] at hb
   obtain ⟨⟨h1,h2⟩,h3,h4⟩:=hb
   clear h
   have hm:=Zwi h1 h2 h3 h4
   have hle:a.natAbs*b.natAbs<=9007199254740992*9007199254740992:=Nat.mul_le_mul (by omega) (by omega)
   have ha:=Zul a
   have hb:=Zul b
   have hM:=Zum a.natAbs b.natAbs (by omega) (by omega)
   have HM:=Lib.hid hM
   have HA:=Lib.hid ha
   have HB:=Lib.hid hb
   clear ha hb hM
   have hab:inR (a*b)=true-> -9007199254740992<=a*b/\a*b<=9007199254740992:=inR_iff.1
   by_cases hz:a.natAbs*b.natAbs<=9007199254740992
   · have hin:inR (a*b)=true:=by rw [hm];simp [hz]
     have hx:=hab hin
     obtain ⟨hx1,hx2⟩:=hx
     have z1:((a.natAbs*b.natAbs/18446744073709551616:Nat):Int)=0:=by omega
     have z2:((a.natAbs*b.natAbs%18446744073709551616:Nat):Int)<=9007199254740992:=by omega
     have HI:=Lib.hid hin
     have Z1:=Lib.hid z1
     have Z2:=Lib.hid z2
     clear hin hm hab z1 z2 hz hle
     go_enter Tryz.func254,Tryz.ntmps254
     go_wp2_with fail
     refine (X4 a b _ _ _ (by simp [go_sem]) (by simp [go_sem]) _ H).mono ?_
     rintro e w1 ⟨rfl,rfl⟩
     go_wp2_with fail
     refine (HA.out _ h1 h2).mono ?_
     rintro e w1 ⟨rfl,rfl⟩
     go_wp2_with fail
     refine (HB.out _ h3 h4).mono ?_
     rintro e w1 ⟨rfl,rfl⟩
     go_wp2_with fail
     refine (HM.out _).mono ?_
     rw [Z1.out]
     have z2:=Z2.out
     generalize ((a.natAbs*b.natAbs%18446744073709551616:Nat):Int)=q at*
     rintro e w1 ⟨rfl,rfl⟩
     go_wp2_with fail
     go_ret2
     exact ⟨Z5 (by simp only [mulF,H.out,rngF,HI.out];rfl) (by simp only [mulF,H.out,rngF,HI.out];rfl),(Ext.refl _).alloc _⟩
   · have hin:inR (a*b)=false:=by rw [hm];simp [hz]
     have HI:=Lib.hid hin
     clear hin hm hab
     generalize a.natAbs*b.natAbs=p at*
     have hp2:((p/18446744073709551616:Nat):Int)=0/\9007199254740992<((p%18446744073709551616:Nat):Int)\/0<((p/18446744073709551616:Nat):Int):=by omega
     generalize ((p/18446744073709551616:Nat):Int)=q1 at*
     generalize ((p%18446744073709551616:Nat):Int)=q2 at*
     clear hz hle
     rcases hp2 with ⟨rfl,hq⟩|hq
     all_goals
      go_enter Tryz.func254,Tryz.ntmps254
      go_wp2_with fail
      refine (X4 a b _ _ _ (by simp [go_sem]) (by simp [go_sem]) _ H).mono ?_
      rintro e w1 ⟨rfl,rfl⟩
      go_wp2_with fail
      refine (HA.out _ h1 h2).mono ?_
      rintro e w1 ⟨rfl,rfl⟩
      go_wp2_with fail
      refine (HB.out _ h3 h4).mono ?_
      rintro e w1 ⟨rfl,rfl⟩
      go_wp2_with fail
      refine (HM.out _).mono ?_
      rintro e w1 ⟨rfl,rfl⟩
      go_wp2_with fail
      go_ret2
      exact ⟨Z5 (by simp only [mulF,H.out,rngF,HI.out];rfl) (by simp only [mulF,H.out,rngF,HI.out];rfl),(Ext.refl _).alloc _⟩
set_option maxHeartbeats 400000 in
theorem Z1n (a b m:Int) (w:World):
 Calls Tryz.prog 258 #[.int .i64 a,.int .i64 b,.int .i64 m] w fun e w'=>e= .returned (.tuple #[.int .i64 (divF a b m).1,.int .i64 (divF a b m).2])/\Ext w w':=by
 by_cases hm:m<8\/10<m
 · have HM:=Lib.hid hm
   have g1:(m !=8)=true:=by rw [bne_iff_ne];omega
   have g2:(m !=9)=true:=by rw [bne_iff_ne];omega
   have g3:(m !=10)=true:=by rw [bne_iff_ne];omega
   clear hm
   go_enter Tryz.func258,Tryz.ntmps258
   go_wp2_with fail
   go_ret2
   exact ⟨Z5 (by simp only [divF,if_pos HM.out]) (by simp only [divF,if_pos HM.out]),Ext.refl _⟩
 · have HM:=Lib.hid hm
   have hm3:m=8\/m=9\/m=10:=by omega
   clear hm
   cases h:inR a&&inR b
   · have H:=Lib.hid h
     clear h
     rcases hm3 with rfl|rfl|rfl
     all_goals
      go_enter Tryz.func258,Tryz.ntmps258
      go_wp2_with fail
      refine (X4 a b _ _ _ (by simp [go_sem]) (by simp [go_sem]) _ H).mono ?_
      rintro e w1 ⟨rfl,rfl⟩
      go_wp2_with fail
      go_ret2
      exact ⟨Z5 (by simp only [divF,if_neg HM.out,H.out];rfl) (by simp only [divF,if_neg HM.out,H.out];rfl),(Ext.refl _).alloc _⟩
   · have H:=Lib.hid h
     have hb:=h
     simp only [Bool.and_eq_true,inR_iff] at hb
     obtain ⟨⟨h1,h2⟩,h3,h4⟩:=hb
     clear h
     by_cases hb0:b<=0
     · have HB0:=Lib.hid hb0
       rcases hm3 with rfl|rfl|rfl
       all_goals
        go_enter Tryz.func258,Tryz.ntmps258
        go_wp2_with fail
        refine (X4 a b _ _ _ (by simp [go_sem]) (by simp [go_sem]) _ H).mono ?_
        rintro e w1 ⟨rfl,rfl⟩
        go_wp2_with fail
        go_ret2
        exact ⟨Z5 (by simp only [divF,if_neg HM.out,H.out,if_pos HB0.out];rfl) (by simp only [divF,if_neg HM.out,H.out,if_pos HB0.out];rfl),(Ext.refl _).alloc _⟩
     · have HB0:=Lib.hid hb0
       have hb1:0<b:=by omega
       rcases hm3 with rfl|rfl|rfl
       · go_enter Tryz.func258,Tryz.ntmps258
         go_wp2_with fail
         refine (X4 a b _ _ _ (by simp [go_sem]) (by simp [go_sem]) _ H).mono ?_
         rintro e w1 ⟨rfl,rfl⟩
         go_wp2_with fail
         · have ht:a.tmod b<0:=by assumption
           go_ret2
           exact ⟨Z5 (by rw [Zke hb1 ht];simp [divF,H.out,Int.not_le.2 hb1]) (by simp [divF,H.out,Int.not_le.2 hb1]),(Ext.refl _).alloc _⟩
         · have ht:0<=a.tmod b:=by assumption
           go_ret2
           exact ⟨Z5 (by rw [Zkf hb1 ht];simp [divF,H.out,Int.not_le.2 hb1]) (by simp [divF,H.out,Int.not_le.2 hb1]),(Ext.refl _).alloc _⟩
       · go_enter Tryz.func258,Tryz.ntmps258
         go_wp2_with fail
         refine (X4 a b _ _ _ (by simp [go_sem]) (by simp [go_sem]) _ H).mono ?_
         rintro e w1 ⟨rfl,rfl⟩
         go_wp2_with fail
         · have ht:0<a.tmod b:=by assumption
           go_ret2
           exact ⟨Z5 (by rw [Z38 hb1 ht];simp [divF,H.out,Int.not_le.2 hb1]) (by simp [divF,H.out,Int.not_le.2 hb1]),(Ext.refl _).alloc _⟩
         · have ht:a.tmod b<=0:=by assumption
           go_ret2
           exact ⟨Z5 (by rw [Z39 hb1 ht];simp [divF,H.out,Int.not_le.2 hb1]) (by simp [divF,H.out,Int.not_le.2 hb1]),(Ext.refl _).alloc _⟩
       · go_enter Tryz.func258,Tryz.ntmps258
         go_wp2_with fail
         refine (X4 a b _ _ _ (by simp [go_sem]) (by simp [go_sem]) _ H).mono ?_
         rintro e w1 ⟨rfl,rfl⟩
         go_wp2_with fail
         · have ht:(2*a+b).tmod (2*b)<0:=by assumption
           go_ret2
           exact ⟨Z5 (by rw [Zke (by omega) ht];simp [divF,H.out,Int.not_le.2 hb1]) (by simp [divF,H.out,Int.not_le.2 hb1]),(Ext.refl _).alloc _⟩
         · have ht:0<=(2*a+b).tmod (2*b):=by assumption
           go_ret2
           exact ⟨Z5 (by rw [Zkf (by omega) ht];simp [divF,H.out,Int.not_le.2 hb1]) (by simp [divF,H.out,Int.not_le.2 hb1]),(Ext.refl _).alloc _⟩
end
section
open Go
def dI:Dc E Int:=dInt .i64
def dII:DcL E (Int×Int×Unit):= .cons dI (.cons dI .nil)
def dIII:DcL E (Int×Int×Int×Unit):= .cons dI (.cons dI (.cons dI .nil))
def Zwq (p:Int×Int):SV thy:= .tup [.int false .i64 p.1,.int false .i64 p.2]
theorem Zea {f:Nat} {a b:Int} {p:Int×Int} (h:∀w,Calls Tryz.prog f #[.int .i64 a,.int .i64 b] w fun e w'=>e= .returned (.tuple #[.int .i64 p.1,.int .i64 p.2])/\Ext w w'):PureC E f (dII.enc (a,b,())) (Zwq p):=by
 refine Zee fun g w vals hd=> ?_
 obtain rfl:=Ztp (vals:=vals) hd
 refine (h w).mono ?_
 rintro en w' ⟨rfl,hx⟩
 exact ⟨_,rfl,Zni,hx⟩
theorem Zs3 {f:Nat} {a b c:Int} {p:Int×Int} (h:∀w,Calls Tryz.prog f #[.int .i64 a,.int .i64 b,.int .i64 c] w fun e w'=>e= .returned (.tuple #[.int .i64 p.1,.int .i64 p.2])/\Ext w w'):PureC E f (dIII.enc (a,b,c,())) (Zwq p):=by
 refine Zee fun g w vals hd=> ?_
 obtain rfl:=Ztq (vals:=vals) hd
 refine (h w).mono ?_
 rintro en w' ⟨rfl,hx⟩
 exact ⟨_,rfl,Zni,hx⟩
def S2 (f:Int->Int->Int×Int):Sum thy:=sumP dII (fun _=>True) fun x=>Zwq (f x.1 x.2.1)
def S3 (f:Int->Int->Int->Int×Int):Sum thy:=sumP dIII (fun _=>True) fun x=>Zwq (f x.1 x.2.1 x.2.2.1)
def F1a:Fns thy:=addS (addS (addS (addS F0 252 (S2 addF)) 253 (S2 subF)) 254 (S2 mulF)) 258 (S3 divF)
theorem Z22:FnsOk E F1a:=by
 refine Zf (Zf (Zf (Zf F0_ok ?_) ?_) ?_) ?_
 · exact Yz E_ok (Zi (f:=252) rfl) fun x _=>Zea fun w=>Z1k _ _ w
 · exact Yz E_ok (Zi (f:=253) rfl) fun x _=>Zea fun w=>Z1l _ _ w
 · exact Yz E_ok (Zi (f:=254) rfl) fun x _=>Zea fun w=>Z1m _ _ w
 · exact Yz E_ok (Zi (f:=258) rfl) fun x _=>Zs3 fun w=>Z1n _ _ _ w
def Fv1:Fns thy:=F1a
theorem Zix:FnsOk E Fv1:=Z22
end
section
open Go
abbrev qBA3 (a0:Int) (b0:Int) (c0:Bool):=(decide (mm2 false a0 b0>=0)=true->(decide (mm2 true a0 b0<=9007199254740992)=true->true=c0)/\(decide (mm2 true a0 b0<=9007199254740992)=false->false=c0))
abbrev qBA4 (a0:Int) (b0:Int) (c0:Bool):=(decide (mm2 false a0 b0>=0)=false->false=c0)
abbrev qBA1 (a0:Int) (b0:Int) (c0:Int) (d0:Bool):=((a0==a0&&(0==0&&(b0==0&&true)))=true->(qBA3 c0 b0 d0)/\(qBA4 c0 b0 d0))
abbrev qBA2 (a0:Int) (b0:Int) (c0:Bool):=((a0==a0&&(0==0&&(b0==0&&true)))=false->false=c0)
theorem Zkq (op n m:Int) (b:Bool):Zr E Fv1 (vc E Fv1 400) 47 [.agg [.int false .i64 op,.int false .i64 n,.int false .i64 m]] hp0 0 (fun r=>ret E (patch hp0 0 r) r.v (.bool false b))=(
 ∃(Q:Bool->Prop),((decide (op<1)=true->Q true)/\(decide (op<1)=false->(decide (op>=17)=true->Q true)/\(decide (op>=17)=false->Q false)))/\(Q true->false=b)/\(Q false->((op==1)=true->(qBA1 op m n b)/\(qBA2 op m b))/\((op==1)=false->((op==13)=true->(qBA1 op m n b)/\(qBA2 op m b))/\((op==13)=false->((op==14)=true->(qBA1 op m n b)/\(qBA2 op m b))/\((op==14)=false->((op==15)=true->(qBA1 op m n b)/\(qBA2 op m b))/\((op==15)=false->((op==2)=true->((op==op&&(0==0&&(m==0&&true)))=true->(decide (mm2 false n m>=0)=true->(decide (mm2 true n m<=15)=true->true=b)/\(decide (mm2 true n m<=15)=false->false=b))/\(qBA4 n m b))/\(qBA2 op m b))/\((op==2)=false->((op==12)=true->((op==op&&(0==0&&(0==0&&true)))=true->(qBA3 n m b)/\(qBA4 n m b))/\((op==op&&(0==0&&(0==0&&true)))=false->false=b))/\((op==12)=false->((op==op&&(n==0&&(m==0&&true)))=true->(decide (mm2 false n m>=0)=true->(decide (mm2 true n m<=0)=true->true=b)/\(decide (mm2 true n m<=0)=false->false=b))/\(qBA4 n m b))/\((op==op&&(n==0&&(m==0&&true)))=false->false=b))))))))):=by kernel_rfl
theorem Zkr (op:Int) (p q:Int):Zr E Fv1 (vc E Fv1 400) 49 [.int false .i64 op] hp0 0 (fun r=>ret E (patch hp0 0 r) r.v (.tup [.int false .i64 p,.int false .i64 q]))=(
((op==1)=true->0=p/\1=q/\True)/\((op==1)=false->((op==2)=true->0=p/\1=q/\True)/\((op==2)=false->((op==12)=true->1=p/\1=q/\True)/\((op==12)=false->((op==13)=true->1=p/\0=q/\True)/\((op==13)=false->((op==15)=true->1=p/\0=q/\True)/\((op==15)=false->((op==14)=true->0=p/\0=q/\True)/\((op==14)=false->((op==16)=true->0=p/\0=q/\True)/\((op==16)=false->2=p/\1=q/\True)))))))):=by kernel_rfl
theorem Zpk (op:Int) (p:Int):Zr E Fv1 (vc E Fv1 400) 36 [.int false .i64 op] hp0 0 (fun r=>ret E (patch hp0 0 r) r.v (.int false .i64 p))=(
((op==12)=true->1=p)/\((op==12)=false->((op==13)=true->1=p)/\((op==13)=false->((op==15)=true->1=p)/\((op==15)=false->((op==↑3)=true->2=p)/\((op==↑3)=false->((op==↑4)=true->2=p)/\((op==↑4)=false->((op==↑5)=true->2=p)/\((op==↑5)=false->((op==↑6)=true->2=p)/\((op==↑6)=false->((op==↑7)=true->2=p)/\((op==↑7)=false->((op==↑8)=true->2=p)/\((op==↑8)=false->((op==↑9)=true->2=p)/\((op==↑9)=false->((op==↑10)=true->2=p)/\((op==↑10)=false->((op==↑11)=true->2=p)/\((op==↑11)=false->0=p))))))))))))):=by kernel_rfl
theorem Zks (op:Int) (p:Int):Zr E Fv1 (vc E Fv1 400) 18 [.int false .i64 op] hp0 0 (fun r=>ret E (patch hp0 0 r) r.v (.int false .i64 p))=(
∃(Q:Bool->Prop),((decide (op>=3)=true->(decide (op<=11)=true->Q true)/\(decide (op<=11)=false->Q false))/\(decide (op>=3)=false->Q false))/\(Q true->2=p)/\(Q false->∃(Q:Bool->Prop),(((op==12)=true->Q true)/\((op==12)=false->((op==13)=true->Q true)/\((op==13)=false->((op==15)=true->Q true)/\((op==15)=false->Q false))))/\(Q true->1=p)/\(Q false->0=p))):=by kernel_rfl
theorem Zkt (x:Ins):PureC E 47 [.agg [.int false .i64 x.op,.int false .i64 x.n,.int false .i64 x.m]] (.bool false (formedF x)):=by
 refine Za E_ok (Zg E_ok Zix 400) ?_
 rw [Zkq];delta qBA3 qBA4 qBA1 qBA2
 repeat' (first|exact Ztn _|apply Zyz|apply Zy0|(refine And.intro ?_ ?_)|(intro h))
 all_goals (try simp only [Z9,Zy,Xz,X0,X1,Bool.or_eq_true,Bool.or_eq_false_iff,Bool.not_eq_true',Bool.not_eq_false',beq_iff_eq,bne_iff_ne,beq_eq_false_iff_ne,decide_eq_true_eq,decide_eq_false_iff_not,Bool.and_eq_true,Bool.and_true,Bool.true_and,Bool.and_eq_false_iff,beq_self_eq_true,Z4,Yf,ne_eq,and_true,true_and,Bool.true_eq_false,Bool.false_eq_true,false_or,or_false,true_implies,Int.ofNat_eq_natCast] at*)
 all_goals (try unfold formedF)
 all_goals (repeat' split)
 all_goals first|contradiction|omega|(symm;simp only [decide_eq_true_eq,decide_eq_false_iff_not];omega)
theorem Zku (op:Int):PureC E 49 [.int false .i64 op] (.tup [.int false .i64 (eff op).1,.int false .i64 (eff op).2]):=by
 refine Za E_ok (Zg E_ok Zix 400) ?_
 rw [Zkr]
 simp only [beq_iff_eq,bne_iff_ne,beq_eq_false_iff_ne,decide_eq_true_eq,decide_eq_false_iff_not,Bool.and_eq_true,Bool.and_true,Bool.true_and,Bool.and_eq_false_iff,beq_self_eq_true,Z4,Yf,ne_eq,and_true,true_and,Bool.true_eq_false,Bool.false_eq_true,false_or,or_false,true_implies,Int.ofNat_eq_natCast]
 repeat' (first|(refine And.intro ?_ ?_)|(intro h))
 all_goals (unfold eff;repeat' split)
 all_goals first|contradiction|omega|rfl
theorem Zpl (op:Int):PureC E 36 [.int false .i64 op] (.int false .i64 (Wj op)):=by
 refine Za E_ok (Zg E_ok Zix 400) ?_
 rw [Zpk]
 simp only [beq_iff_eq,bne_iff_ne,beq_eq_false_iff_ne,decide_eq_true_eq,decide_eq_false_iff_not,Bool.and_eq_true,Bool.and_true,Bool.true_and,Bool.and_eq_false_iff,beq_self_eq_true,Z4,Yf,ne_eq,and_true,true_and,Bool.true_eq_false,Bool.false_eq_true,false_or,or_false,true_implies,Int.ofNat_eq_natCast]
 repeat' (first|(refine And.intro ?_ ?_)|(intro h))
 all_goals (unfold Wj;repeat' split)
 all_goals first|contradiction|omega|rfl
theorem Zkv (op:Int):PureC E 18 [.int false .i64 op] (.int false .i64 (Wj op)):=by
 refine Za E_ok (Zg E_ok Zix 400) ?_
 rw [Zks]
 repeat' (first|exact Ztn _|apply Zyz|apply Zy0|(refine And.intro ?_ ?_)|(intro h))
 all_goals (try simp only [Z9,Zy,Xz,X0,X1,Bool.or_eq_true,Bool.or_eq_false_iff,Bool.not_eq_true',Bool.not_eq_false',beq_iff_eq,bne_iff_ne,beq_eq_false_iff_ne,decide_eq_true_eq,decide_eq_false_iff_not,Bool.and_eq_true,Bool.and_true,Bool.true_and,Bool.and_eq_false_iff,beq_self_eq_true,Z4,Yf,ne_eq,and_true,true_and,Bool.true_eq_false,Bool.false_eq_true,false_or,or_false,true_implies,Int.ofNat_eq_natCast] at*)
 all_goals (try unfold Wj)
 all_goals (repeat' split)
 all_goals first|contradiction|omega|rfl
end
section
open Go
def dIns:Dc E Ins:= .map (dAgg dIII) (fun x=>⟨x.1,x.2.1,x.2.2.1⟩) (fun x=>(x.op,x.n,x.m,())) (fun _=>rfl)
def Zzg:Dc E (List Ins):=(Zk4 (E:=E) Th.ins:Dc E (List (thy.dom Th.ins)))
def Z32:Dc E (List Int):=(Zk4 (E:=E) Th.ints:Dc E (List (thy.dom Th.ints)))
def dL1 {α:Type} (d:Dc E α):DcL E (α×Unit):= .cons d .nil
def dL2 {α β:Type} (d:Dc E α) (e:Dc E β):DcL E (α×β×Unit):= .cons d (dL1 e)
def dL3 {α β γ:Type} (d:Dc E α) (e:Dc E β) (f:Dc E γ):DcL E (α×β×γ×Unit):= .cons d (dL2 e f)
def dL4 {α β γ δ:Type} (d:Dc E α) (e:Dc E β) (f:Dc E γ) (k:Dc E δ):DcL E (α×β×γ×δ×Unit):= .cons d (dL3 e f k)
def Zvn:Sum thy:=sumP (dL1 dIns) (fun _=>True) fun x=> .bool false (formedF x.1)
def Seff:Sum thy:=sumP (dL1 dI) (fun _=>True) fun x=> .tup [.int false .i64 (eff x.1).1,.int false .i64 (eff x.1).2]
def Zyi:Sum thy:=sumP (dL1 dI) (fun _=>True) fun x=> .int false .i64 (Wj x.1)
def F2a:Fns thy:=addS (addS (addS (addS Fv1 47 Zvn) 49 Seff) 36 Zyi) 18 Zyi
theorem Z18:FnsOk E F2a:=by
  refine Zf (Zf (Zf (Zf Zix ?_) ?_) ?_) ?_
  · exact Yz E_ok (Zi (f:=47) rfl) fun x _=>Zkt x.1
  · exact Yz E_ok (Zi (f:=49) rfl) fun x _=>Zku x.1
  · exact Yz E_ok (Zi (f:=36) rfl) fun x _=>Zpl x.1
  · exact Yz E_ok (Zi (f:=18) rfl) fun x _=>Zkv x.1
def Fv2:Fns thy:=F2a
theorem Z19:FnsOk E Fv2:=Z18
/-- the loop of IndexFunc -/
def A48:Fr thy->Hp thy->Nat->Ann thy:=fun T h i=>{X:=LX,fr:=fun x=> [(0,T 0),(1,T 1),(7,T 7),(8,.int false .i64 x.k)],bl:=fun _=> [],src:=fun _=> [],md:= [],ih:=i,M:=i+30,meas:=fun x=>x.r}
/-- the loop of Repeat -/
def A32:Fr thy->Hp thy->Nat->Ann thy:=fun T h i=>{X:=LX,fr:=fun x=> [(7,T 7),(8,.int false .i64 x.k)],bl:=fun x=> [(bOf (T 7),.rows .ints x.D 0)],src:=fun _=> [],md:= [bOf (T 7)],ih:=i,M:=i+30,meas:=fun x=>x.r}
/-- the loop of Verify -/
def A9:Fr thy->Hp thy->Nat->Ann thy:=fun T h i=>{X:=LX,fr:=fun x=> [(0,T 0),(2,.int false .i64 x.m),(4,T 4),(30,T 30),(31,T 31),(32,.int false .i64 x.k)],bl:=fun x=> [(bOf (T 4),.rows .ints x.D 0)],src:=fun _=> [],md:= [bOf (T 4)],ih:=i,M:=i+60,meas:=fun x=>x.r}
/-- the loop over what can follow -/
def A9n:Fr thy->Hp thy->Nat->Ann thy:=fun T h i=>{X:=LX,fr:=fun x=> [(0,T 0),(2,T 2),(4,T 4),(5,T 5),(10,T 10),(30,T 30),(31,T 31),(32,T 32),(110,T 110),(111,T 111),(112,.int false .i64 x.k)],bl:=fun x=>(bOf (T 4),.rows .ints x.D 0)::blkS h (T 110),src:=fun _=> [],md:= [bOf (T 4)],ih:=i,M:=i+20,meas:=fun x=>x.r}
def F3:Fns thy:=addL (addL (addL (addL Fv2 64 2 A48 E) 48 8 A32 E) 29 8 A9 E) 29 23 A9n E
theorem Zzh:FnsOk E F3:=Z3 E_ok (Z3 E_ok (Z3 E_ok (Z3 E_ok Z19 _ _ _) _ _ _) _ _ _) _ _ _
theorem Zfz {y:Int} (h0:0<=y) (h:y<4294967296):Zo .and .u64 y 4294967295=y:=by
  obtain ⟨n,rfl⟩:=Int.eq_ofNat_of_zero_le h0
  have h':n<4294967296:=by omega
  have e:(BitVec.ofInt 64 (n:Int)&&&BitVec.ofInt 64 4294967295).toNat=n:=by
    rw [BitVec.toNat_and]
    have e1:(BitVec.ofInt 64 (n:Int)).toNat=n:=by
      rw [BitVec.toNat_ofInt];omega
    have e2:(BitVec.ofInt 64 4294967295).toNat=2^32-1:=by decide
    rw [e1,e2,Nat.and_two_pow_sub_one_eq_mod]
    omega
  show IntKind.u64.wrap ((BitVec.ofInt 64 (n:Int)&&&BitVec.ofInt 64 4294967295).toNat:Int)=n
  rw [e,IntKind.wrap_u64]
  omega
theorem Zyj {n:Int} (h1:0<=n) (h2:n<18446744073709551616):wr .u64 n=n:=by simp only [wr,IntKind.wrap_u64];omega
theorem Zf0 {α:Type} {f:α->Bool} {l:List α} {k:Nat} {x:α} (h:l[k]? =some x):(l.take (k+1)).all f=((l.take k).all f&&f x):=by
  obtain ⟨hk,rfl⟩:=gA9.1 h
  rw [List.take_succ_eq_append_getElem hk,List.all_append,List.all_cons,List.all_nil,Bool.and_true]
theorem Zjs {α:Type} {f:α->Bool} {l:List α} {k:Nat} {x:α} (h:l[k]? =some x) (hf:f x=false):l.all f=false:=by
  rw [Bool.eq_false_iff]
  intro hh
  have:=(List.all_eq_true.1 hh) x (List.mem_of_getElem? h)
  rw [hf] at this;cases this
--@cond bmul | 66 | F3 | 400 | (x y : Int) | [.int false .u64 x, .int false .u64 y] | (p q : Int) | .tup [.int false .u64 p, .int false .u64 q]
theorem Zq1 (x y:Int) (p q:Int):Zr E F3 (vc E F3 400) 66 [.int false .u64 x,.int false .u64 y] hp0 0 (fun r=>ret E (patch hp0 0 r) r.v (.tup [.int false .u64 p,.int false .u64 q]))=(
  wr IntKind.u64
        (wr IntKind.u64
            (wr IntKind.u64
                (Int.fdiv x (2^min (Int.toNat 32) (IntKind.bits IntKind.u64))*
                  Int.fdiv y (2^min (Int.toNat 32) (IntKind.bits IntKind.u64)))+
              Int.fdiv
                (wr IntKind.u64
                  (wr IntKind.u64
                      (Int.fdiv x (2^min (Int.toNat 32) (IntKind.bits IntKind.u64))*
                        Zo BinOp.and IntKind.u64 y 4294967295)+
                    Int.fdiv
                      (wr IntKind.u64
                        (Zo BinOp.and IntKind.u64 x 4294967295*Zo BinOp.and IntKind.u64 y 4294967295))
                      (2^min (Int.toNat 32) (IntKind.bits IntKind.u64))))
                (2^min (Int.toNat 32) (IntKind.bits IntKind.u64)))+
          Int.fdiv
            (wr IntKind.u64
              (Zo BinOp.and IntKind.u64
                  (wr IntKind.u64
                    (wr IntKind.u64
                        (Int.fdiv x (2^min (Int.toNat 32) (IntKind.bits IntKind.u64))*
                          Zo BinOp.and IntKind.u64 y 4294967295)+
                      Int.fdiv
                        (wr IntKind.u64
                          (Zo BinOp.and IntKind.u64 x 4294967295*Zo BinOp.and IntKind.u64 y 4294967295))
                        (2^min (Int.toNat 32) (IntKind.bits IntKind.u64))))
                  4294967295+
                wr IntKind.u64
                  (Zo BinOp.and IntKind.u64 x 4294967295*
                    Int.fdiv y (2^min (Int.toNat 32) (IntKind.bits IntKind.u64)))))
            (2^min (Int.toNat 32) (IntKind.bits IntKind.u64)))=
      p/\
    wr IntKind.u64 (x*y)=q/\True
  ):=by kernel_rfl
--@end
--@cond contains | 45 | F3 | 400 | (c : List Ins) | [.psl .ins c false, .fn (.func 46) [] []] | (b : Bool) | .bool false b
theorem Zf1 (c:List Ins) (b:Bool):Zr E F3 (vc E F3 400) 45 [.psl .ins c false,.fn (.func 46) [] []] hp0 0 (fun r=>ret E (patch hp0 0 r) r.v (.bool false b))=(
  ∃(R:LX->Prop),
    (∃(x:LX),
        R x/\
          true=true/\
            ((c=c/\(false=true->false=true))/\
                (Fn.func 46=Fn.func 46/\True/\True)/\
                  (↑(List.length c):Int)=(↑(List.length c):Int)/\0=(↑(LX.k x):Int)/\True)/\
              True)/\
      ∀(x:LX),
        R x->
          (decide ((↑(LX.k x):Int)<(↑(List.length c):Int))=true->
              0<=(↑(LX.k x):Int)/\
                (↑(LX.k x):Int)+1<=(↑(List.length c):Int)/\
                  ∀(x_1:Ins),
                    c[Int.toNat (↑(LX.k x):Int)]? =some x_1->
                      True/\
                        ((!formedF x_1)=true->
                            (decide ((↑(LX.k x):Int)>=0)=true->true=b)/\
                              (decide ((↑(LX.k x):Int)>=0)=false->false=b))/\
                          ((!formedF x_1)=false->
                            ∃(x':LX),
                              R x'/\
                                x'.2+1<=x.2/\
                                  true=true/\
                                    ((c=c/\(false=true->false=true))/\
                                        (Fn.func 46=Fn.func 46/\True/\True)/\
                                          (↑(List.length c):Int)=(↑(List.length c):Int)/\
                                            wr IntKind.i64 ((↑(LX.k x):Int)+1)=(↑(LX.k x'):Int)/\True)/\
                                      True))/\
            (decide ((↑(LX.k x):Int)<(↑(List.length c):Int))=false->false=b)
  ):=by kernel_rfl
--@end
theorem Zq2 (y:Int) (h0:0<=y) (h1:y<4294967296):PureC E 66 [.int false .u64 1,.int false .u64 y] (.tup [.int false .u64 0,.int false .u64 y]):=by
  refine Za E_ok (Zg E_ok Zzh 400) ?_
  rw [Zq1]
  have e1:Int.fdiv y (2^min (Int.toNat 32) (IntKind.bits IntKind.u64))=0:=by
    show y.fdiv 4294967296=0
    rw [Int.fdiv_eq_ediv_of_nonneg _ (by omega)];omega
  have e2:Int.fdiv 1 (2^min (Int.toNat 32) (IntKind.bits IntKind.u64))=0:=by decide
  have e3:Zo .and .u64 1 4294967295=1:=Zfz (by omega) (by omega)
  have e4:=Zfz h0 h1
  have e5:Int.fdiv 0 (2^min (Int.toNat 32) (IntKind.bits IntKind.u64))=0:=by decide
  have e6:wr .u64 0=0:=by decide
  have e7:wr .u64 y=y:=Zyj h0 (by omega)
  have e8:Zo .and .u64 0 4294967295=0:=Zfz (by omega) (by omega)
  simp only [e1,e2,e3,e4,e5,e6,e7,e8,Int.zero_mul,Int.one_mul,Int.mul_zero,Int.zero_add,Int.add_zero,and_self]
theorem Zf2 (c:List Ins) (hc:c.length<=4096):PureC E 45 [.psl .ins c false,.fn (.func 46) [] []] (.bool false (!c.all formedF)):=by
  refine Za E_ok (Zg E_ok Zzh 400) ?_
  rw [Zf1]
  refine ⟨fun x=>x.k+x.r=c.length/\(c.take x.k).all formedF=true,⟨⟨0,c.length,[],0⟩,by simp,by simp⟩,fun x hR=> ?_⟩
  obtain ⟨h1,h2⟩:=hR
  simp only [Z9,Zy,Xz,X0,X1,beq_iff_eq,bne_iff_ne,beq_eq_false_iff_ne,bne_eq_false_iff_eq,decide_eq_true_eq,decide_eq_false_iff_not,Bool.or_eq_true,Bool.or_eq_false_iff,Bool.not_eq_true',Bool.not_eq_false',Bool.and_eq_true,Bool.and_true,Bool.true_and,Bool.and_eq_false_iff,beq_self_eq_true,Z4,Yf,ne_eq,and_true,true_and,Bool.true_eq_false,Bool.false_eq_true,false_or,or_false,true_implies,Int.ofNat_eq_natCast,not_true_eq_false,not_false_eq_true,Decidable.not_not]
  refine ⟨fun hlt=>⟨by omega,by omega,fun y hy=>⟨fun hf=>⟨fun _=> ?_,fun h=>by omega⟩,fun hf=> ?_⟩⟩,fun hge=> ?_⟩
  · rw [Int.toNat_natCast] at hy
    rw [Zjs hy hf];rfl
  · rw [Int.toNat_natCast] at hy
    refine ⟨⟨x.k+1,x.r-1,[],0⟩,⟨by show x.k+1+(x.r-1)=_;omega,by show (c.take (x.k+1)).all formedF=true;rw [Zf0 hy,h2,hf];rfl⟩,by show x.r-1+1<=x.r;omega,?_⟩
    rw [wr64 (by omega) (by omega)]
    simp
  · rw [List.take_of_length_le (by omega)] at h2
    rw [h2];rfl
end
section
open Go
def dFn (f:Nat):Dc E Unit where
 dec v:=match v with| .fn (.func g) [] []=>(match Nat.beq g f with|true=>some ()|false=>none)|_=>none
 enc _:= .fn (.func f) [] []
 ok v a h:=by
  split at h
  · split at h
    · rename_i e
      rw [gC9 e]
      exact ⟨rfl,rfl,fun σ g u hd=>hd⟩
    · cases h
  · cases h
def Zt3:Sum thy:=sumP (dL2 Zzg (dFn 46)) (fun x=>x.1.length<=4096) fun x=> .bool false (!x.1.all formedF)
def Z4l:Sum thy:=sumP (dL2 (dInt .u64) (dInt .u64)) (fun x=>x.1=1/\0<=x.2.1/\x.2.1<4294967296) fun x=> .tup [.int false .u64 0,.int false .u64 x.2.1]
def F4:Fns thy:=addS (addS F3 45 Zt3) 66 Z4l
theorem Z3g:FnsOk E F4:=by
 refine Zf (Zf Zzh ?_) ?_
 · exact Yz E_ok (Zi (f:=45) rfl) fun x h=>Zf2 x.1 h
 · refine Yz E_ok (Zi (f:=66) rfl) fun x h=> ?_
   obtain ⟨x,y,u⟩:=x
   obtain ⟨rfl,h1,h2⟩:=h
   exact Zq2 y h1 h2
abbrev qBC7 (a0:List Ins):=(↑(List.length a0):Int)
abbrev qBCt (a0:List Ins):=(wr IntKind.u64 (qBC7 a0))
abbrev qBC1 (a0:List Ins):=(wr IntKind.i64 (qBCt a0))
abbrev qBC2 (a0:Int) (b0:Ins):=(wr IntKind.i64 (a0-Prod.fst (eff (Ins.op b0)))+Prod.snd (eff (Ins.op b0)))
abbrev qBCc:=(0:Int)
abbrev qBCr (a0:List Ins):=(Int.toNat (qBC1 a0))
abbrev qBCe (a0:List Ins):=(↑(qBCr a0):Int)
abbrev qBCn:=(1:Int)
abbrev qBCq (a0:Int) (b0:List Ins):=(qBCc<=a0/\a0+qBCn<=(qBCe b0))
abbrev qBC9:=(0:Nat)
abbrev qBC5 (a0:LX):=(↑(LX.k a0):Int)
abbrev qBCm:=(1:Nat)
abbrev qBC3 (a0:Int) (b0:LX) (c0:Bool->Prop) (d0:List Ins) (e0:LX) (f0:Int) (g0:Ins):=((decide (a0<=(qBC5 b0))=true->c0 true)/\(decide (a0<=(qBC5 b0))=false->(decide (a0>=(qBC7 d0))=true->c0 true)/\(decide (a0>=(qBC7 d0))=false->(qBCq a0 d0)/\qBC9+Int.toNat a0+qBCm<=List.length (LX.D e0)/\∀(b0:Int),(LX.D e0)[qBC9+Int.toNat a0]? =some b0->(decide (b0>=qBCc)=true->(qBCq a0 d0)/\qBC9+Int.toNat a0+qBCm<=List.length (LX.D e0)/\∀(b0:Int),(LX.D e0)[qBC9+Int.toNat a0]? =some b0->((b0 !=wr IntKind.i64 (qBC2 f0 g0))=true->c0 true)/\((b0 !=wr IntKind.i64 (qBC2 f0 g0))=false->c0 false))/\(decide (b0>=qBCc)=false->c0 false))))
abbrev qBC4 (a0:List Ins):=(qBC9=qBC9/\Int.toNat (qBC1 a0)=Int.toNat (qBC1 a0)/\Int.toNat (qBC1 a0)=Int.toNat (qBC1 a0))
abbrev qBC6 (a0:List Ins):=(a0=a0/\(false=true->false=true))
abbrev qBC8 (a0:LX):=((qBC5 a0)+qBCn)
abbrev qBCd (a0:Int) (b0:Ins):=(wr IntKind.i64 (qBC2 a0 b0))
abbrev qBCj (a0:LX) (b0:Int):=(mm2 true (LX.m a0) b0)
abbrev qBCa (a0:List Ins) (b0:LX) (c0:Int) (d0:Ins) (e0:LX):=((qBC6 a0)/\mm2 true (qBCj b0 c0) (qBCd c0 d0)=LX.m e0/\(qBC4 a0)/\(qBC6 a0)/\(qBC7 a0)=(qBC7 a0)/\wr IntKind.i64 (qBC8 b0)=(qBC5 e0)/\True)
abbrev qBCb (a0:Ins) (b0:LX):=(↑(List.length [Ins.n a0]+List.length [wr IntKind.i64 (qBC8 b0)]):Int)
abbrev qBCf (a0:LX):=(↑(List.length [wr IntKind.i64 (qBC8 a0)]):Int)
abbrev qBCg (a0:Ins) (b0:Bool->Prop):=(((Ins.op a0 !=(14:Int))=true->((Ins.op a0 !=(15:Int))=true->((Ins.op a0 !=(16:Int))=true->b0 true)/\((Ins.op a0 !=(16:Int))=false->b0 false))/\((Ins.op a0 !=(15:Int))=false->b0 false))/\((Ins.op a0 !=(14:Int))=false->b0 false))
abbrev qBCh (a0:Ins):=(List.length [Ins.n a0])
abbrev qBCi (a0:LX) (b0:LX):=(LX.D a0=LX.D b0/\qBC9=qBC9)
abbrev qBCk (a0:Ins) (b0:LX):=(qBC9=qBC9/\List.length [Ins.n a0]+List.length [wr IntKind.i64 (qBC8 b0)]=List.length [Ins.n a0]+List.length [wr IntKind.i64 (qBC8 b0)]/\True)
abbrev qBCl (a0:Ins) (b0:LX):=(List.take (qBCh a0) [Ins.n a0]++ [wr IntKind.i64 (qBC8 b0)]=List.take (qBCh a0) [Ins.n a0]++ [wr IntKind.i64 (qBC8 b0)]/\qBC9=qBC9)
abbrev qBCo (a0:LX):=(qBC9=qBC9/\List.length [wr IntKind.i64 (qBC8 a0)]=List.length [wr IntKind.i64 (qBC8 a0)]/\True)
abbrev qBCp (a0:List Ins) (b0:LX):=(Int.toNat (qBC1 a0)-Int.toNat (qBC5 b0))
abbrev qBCs (a0:LX):=(List.take (Int.toNat (qBC5 a0)) (LX.D a0))
abbrev qBCu (a0:Ins):=(qBC9=qBC9/\List.length [Ins.n a0]=List.length [Ins.n a0]/\True)
abbrev qBCv (a0:LX):=([wr IntKind.i64 (qBC8 a0)]= [wr IntKind.i64 (qBC8 a0)]/\qBC9=qBC9)
theorem Zlr (c:List Ins) (p q:Int):Zr E F4 (vc E F4 400) 29 [.psl .ins c false] hp0 0 (fun r=>ret E (patch hp0 0 r) r.v (.tup [.int false .i64 p,.int false .i64 q]))=(
 (decide ((qBC7 c)>(4096:Int))=true->qBCc=p/\(2:Int)=q/\True)/\(decide ((qBC7 c)>(4096:Int))=false->(((qBC7 c)==qBCc)=true->qBCc=p/\(200:Int)=q/\True)/\(((qBC7 c)==qBCc)=false->List.length c<=(4096:Nat)/\((!List.all c formedF)=true->qBCc=p/\(200:Int)=q/\True)/\((!List.all c formedF)=false->(decide ((qBC7 c)<qBCc)=true->False)/\(decide ((qBC7 c)<qBCc)=false->(qBCn=qBCn/\qBCc<=wr IntKind.u64 (qBC7 c)/\wr IntKind.u64 (qBC7 c)+qBCn<=(4294967296:Int))/\∃(Q:Bool->Prop),((decide (qBCc>qBCc)=true->Q true)/\(decide (qBCc>qBCc)=false->(decide (wr IntKind.u64 (qBC7 c)>(9223372036854775807:Int))=true->Q true)/\(decide (wr IntKind.u64 (qBC7 c)>(9223372036854775807:Int))=false->Q false)))/\(Q true->False)/\(Q false->qBCc<=wr IntKind.i64 (qBCt c)/\wr IntKind.i64 (qBCt c)<=wr IntKind.i64 (qBCt c)/\(↑(8:Nat):Int)*wr IntKind.i64 (qBCt c)<=(281474976710656:Int)/\(qBC9<=qBC9/\qBC9+Int.toNat (qBC1 c)<=List.length (List.replicate (qBCr c) qBCc))/\∃(R:LX->Prop),(∃(x:LX),R x/\true=true/\((qBC4 c)/\(↑(min (List.length [(-1:Int)]) (qBCr c)):Int)=(qBC5 x)/\True)/\(List.take qBC9 (List.replicate (qBCr c) qBCc)++List.take (qBCr c) [(-1:Int)]++List.drop (qBC9+min (List.length [(-1:Int)]) (qBCr c)) (List.replicate (qBCr c) qBCc)=LX.D x/\qBC9=qBC9)/\True)/\∀(x:LX),R x->(decide ((qBC5 x)<(qBCe c))=true->(qBCc<=(qBC5 x)/\(qBC5 x)<=(qBCe c))/\(decide ((qBC5 x)<(qBCe c))=true->(qBCc<=(qBC5 x)/\(qBC5 x)<=(qBCe c))/\qBC9+Int.toNat (qBC5 x)<=List.length (LX.D x)/\(qBC9<=qBC9+Int.toNat (qBC5 x)/\qBC9+Int.toNat (qBC5 x)+(qBCp c x)<=List.length (LX.D x))/\∃(x':LX),R x'/\x'.2+qBCm<=x.2/\true=true/\((qBC4 c)/\wr IntKind.i64 ((qBC5 x)+(↑(min (List.length (qBCs x)) (qBCp c x)):Int))=(qBC5 x')/\True)/\(List.take (qBC9+Int.toNat (qBC5 x)) (LX.D x)++List.take (qBCp c x) (qBCs x)++List.drop (qBC9+Int.toNat (qBC5 x)+min (List.length (qBCs x)) (qBCp c x)) (LX.D x)=LX.D x'/\qBC9=qBC9)/\True)/\(decide ((qBC5 x)<(qBCe c))=false->(qBCc<=(qBC5 x)/\(qBC5 x)<=(qBCe c))/\False))/\(decide ((qBC5 x)<(qBCe c))=false->(qBCc<=qBCc/\qBCc+qBCn<=(qBCe c))/\qBC9<=qBC9+Int.toNat qBCc/\qBC9+Int.toNat qBCc+qBCm<=List.length (LX.D x)/\∀(x_1:Int),(LX.D x)[qBC9+Int.toNat qBCc]? =some x_1->∃(R:LX->Prop),(∃(x_2:LX),R x_2/\true=true/\((qBC6 c)/\qBCc=LX.m x_2/\(qBC4 c)/\(qBC6 c)/\(qBC7 c)=(qBC7 c)/\qBCc=(qBC5 x_2)/\True)/\(List.set (LX.D x) (qBC9+Int.toNat qBCc) qBCc=LX.D x_2/\qBC9=qBC9)/\True)/\∀(x:LX),R x->(decide ((qBC5 x)<(qBC7 c))=true->qBCc<=(qBC5 x)/\(qBC5 x)+qBCn<=(qBC7 c)/\∀(x_2:Ins),c[Int.toNat (qBC5 x)]? =some x_2->(qBCc<=(qBC5 x)/\(qBC5 x)+qBCn<=(qBCe c))/\qBC9+Int.toNat (qBC5 x)+qBCm<=List.length (LX.D x)/\∀(x_3:Int),(LX.D x)[qBC9+Int.toNat (qBC5 x)]? =some x_3->(decide (x_3<qBCc)=true->∃(x':LX),R x'/\x'.2+qBCm<=x.2/\true=true/\((qBC6 c)/\LX.m x=LX.m x'/\(qBC4 c)/\(qBC6 c)/\(qBC7 c)=(qBC7 c)/\wr IntKind.i64 (qBC8 x)=(qBC5 x')/\True)/\(qBCi x x')/\True)/\(decide (x_3<qBCc)=false->True/\∃(Q:Bool->Prop),((decide (x_3<Prod.fst (eff (Ins.op x_2)))=true->Q true)/\(decide (x_3<Prod.fst (eff (Ins.op x_2)))=false->((Ins.op x_2==(15:Int))=true->((x_3 !=qBCn)=true->Q true)/\((x_3 !=qBCn)=false->((Ins.op x_2==(16:Int))=true->((x_3 !=qBCc)=true->Q true)/\((x_3 !=qBCc)=false->Q false))/\((Ins.op x_2==(16:Int))=false->Q false)))/\((Ins.op x_2==(15:Int))=false->((Ins.op x_2==(16:Int))=true->((x_3 !=qBCc)=true->Q true)/\((x_3 !=qBCc)=false->Q false))/\((Ins.op x_2==(16:Int))=false->Q false))))/\(Q true->qBCc=p/\(200:Int)=q/\True)/\(Q false->∃(Q:Bool->Prop),(((Ins.op x_2==(13:Int))=true->Q true)/\
((Ins.op x_2==(13:Int))=false->((Ins.op x_2==(14:Int))=true->Q true)/\((Ins.op x_2==(14:Int))=false->Q false)))/\(Q true->∃(Q:Bool->Prop),(qBCg x_2 Q)/\(Q true->(List.length [Ins.n x_2]<=List.length [Ins.n x_2]/\qBC9<=List.length [Ins.n x_2]/\(List.length [Ins.n x_2]+List.length [wr IntKind.i64 (qBC8 x)])*(8:Nat)<=(140737488355328:Nat))/\∃(R_1:LX->Prop),(∃(x_4:LX),R_1 x_4/\true=true/\((qBC6 c)/\mm2 true (qBCj x x_3) (qBCd x_3 x_2)=mm2 true (qBCj x x_3) (qBCd x_3 x_2)/\(qBC4 c)/\(qBC5 x)=(qBC5 x)/\wr IntKind.i64 (qBC2 x_3 x_2)=wr IntKind.i64 (qBC2 x_3 x_2)/\(qBC6 c)/\(qBC7 c)=(qBC7 c)/\(qBC5 x)=(qBC5 x)/\(qBCk x_2 x)/\(qBCb x_2 x)=(qBCb x_2 x)/\qBCc=(qBC5 x_4)/\True)/\(qBCi x x_4)/\(qBCl x_2 x)/\True)/\∀(x_4:LX),R_1 x_4->(decide ((qBC5 x_4)<(qBCb x_2 x))=true->(qBCc<=(qBC5 x_4)/\(qBC5 x_4)+qBCn<=(qBCb x_2 x))/\qBC9+Int.toNat (qBC5 x_4)+qBCm<=List.length (List.take (qBCh x_2) [Ins.n x_2]++ [wr IntKind.i64 (qBC8 x)])/\∀(x_5:Int),(List.take (qBCh x_2) [Ins.n x_2]++ [wr IntKind.i64 (qBC8 x)])[qBC9+Int.toNat (qBC5 x_4)]? =some x_5->∃(Q:Bool->Prop),(qBC3 x_5 x Q c x_4 x_3 x_2)/\(Q true->qBCc=p/\(200:Int)=q/\True)/\(Q false->(qBCq x_5 c)/\qBC9<=qBC9+Int.toNat x_5/\qBC9+Int.toNat x_5+qBCm<=List.length (LX.D x_4)/\∀(x_6:Int),(LX.D x_4)[qBC9+Int.toNat x_5]? =some x_6->∃(x':LX),R_1 x'/\x'.2+qBCm<=x_4.2/\true=true/\((qBC6 c)/\mm2 true (qBCj x x_3) (qBCd x_3 x_2)=mm2 true (qBCj x x_3) (qBCd x_3 x_2)/\(qBC4 c)/\(qBC5 x)=(qBC5 x)/\wr IntKind.i64 (qBC2 x_3 x_2)=wr IntKind.i64 (qBC2 x_3 x_2)/\(qBC6 c)/\(qBC7 c)=(qBC7 c)/\(qBC5 x)=(qBC5 x)/\(qBCk x_2 x)/\(qBCb x_2 x)=(qBCb x_2 x)/\wr IntKind.i64 (qBC8 x_4)=(qBC5 x')/\True)/\(List.set (LX.D x_4) (qBC9+Int.toNat x_5) (qBCd x_3 x_2)=LX.D x'/\qBC9=qBC9)/\(qBCl x_2 x)/\True))/\(decide ((qBC5 x_4)<(qBCb x_2 x))=false->∃(x':LX),R x'/\x'.2+qBCm<=x.2/\true=true/\(qBCa c x x_3 x_2 x')/\(qBCi x_4 x')/\True))/\(Q false->∃(R_1:LX->Prop),(∃(x_4:LX),R_1 x_4/\true=true/\((qBC6 c)/\mm2 true (qBCj x x_3) (qBCd x_3 x_2)=mm2 true (qBCj x x_3) (qBCd x_3 x_2)/\(qBC4 c)/\(qBC5 x)=(qBC5 x)/\wr IntKind.i64 (qBC2 x_3 x_2)=wr IntKind.i64 (qBC2 x_3 x_2)/\(qBC6 c)/\(qBC7 c)=(qBC7 c)/\(qBC5 x)=(qBC5 x)/\(qBCu x_2)/\(↑(qBCh x_2):Int)=(↑(qBCh x_2):Int)/\qBCc=(qBC5 x_4)/\True)/\(qBCi x x_4)/\([Ins.n x_2]= [Ins.n x_2]/\qBC9=qBC9)/\True)/\∀(x_4:LX),R_1 x_4->(decide ((qBC5 x_4)<(↑(qBCh x_2):Int))=true->(qBCc<=(qBC5 x_4)/\(qBC5 x_4)+qBCn<=(↑(qBCh x_2):Int))/\qBC9+Int.toNat (qBC5 x_4)+qBCm<=List.length [Ins.n x_2]/\∀(x_5:Int),[Ins.n x_2][qBC9+Int.toNat (qBC5 x_4)]? =some x_5->∃(Q:Bool->Prop),(qBC3 x_5 x Q c x_4 x_3 x_2)/\(Q true->qBCc=p/\(200:Int)=q/\True)/\(Q false->(qBCq x_5 c)/\qBC9<=qBC9+Int.toNat x_5/\qBC9+Int.toNat x_5+qBCm<=List.length (LX.D x_4)/\∀(x_6:Int),(LX.D x_4)[qBC9+Int.toNat x_5]? =some x_6->∃(x':LX),R_1 x'/\x'.2+qBCm<=x_4.2/\true=true/\((qBC6 c)/\mm2 true (qBCj x x_3) (qBCd x_3 x_2)=mm2 true (qBCj x x_3) (qBCd x_3 x_2)/\(qBC4 c)/\(qBC5 x)=(qBC5 x)/\wr IntKind.i64 (qBC2 x_3 x_2)=wr IntKind.i64 (qBC2 x_3 x_2)/\(qBC6 c)/\(qBC7 c)=(qBC7 c)/\(qBC5 x)=(qBC5 x)/\(qBCu x_2)/\(↑(qBCh x_2):Int)=(↑(qBCh x_2):Int)/\wr IntKind.i64 (qBC8 x_4)=(qBC5 x')/\True)/\(List.set (LX.D x_4) (qBC9+Int.toNat x_5) (qBCd x_3 x_2)=LX.D x'/\qBC9=qBC9)/\([Ins.n x_2]= [Ins.n x_2]/\qBC9=qBC9)/\True))/\(decide ((qBC5 x_4)<(↑(qBCh x_2):Int))=false->∃(x':LX),R x'/\x'.2+qBCm<=x.2/\true=true/\(qBCa c x x_3 x_2 x')/\(qBCi x_4 x')/\True)))/\(Q false->∃(Q:Bool->Prop),(qBCg x_2 Q)/\(Q true->∃(R_1:LX->Prop),(∃(x_4:LX),R_1 x_4/\true=true/\((qBC6 c)/\mm2 true (qBCj x x_3) (qBCd x_3 x_2)=mm2 true (qBCj x x_3) (qBCd x_3 x_2)
/\(qBC4 c)/\(qBC5 x)=(qBC5 x)/\wr IntKind.i64 (qBC2 x_3 x_2)=wr IntKind.i64 (qBC2 x_3 x_2)/\(qBC6 c)/\(qBC7 c)=(qBC7 c)/\(qBC5 x)=(qBC5 x)/\(qBCo x)/\(qBCf x)=(qBCf x)/\qBCc=(qBC5 x_4)/\True)/\(qBCi x x_4)/\(qBCv x)/\True)/\∀(x_4:LX),R_1 x_4->(decide ((qBC5 x_4)<(qBCf x))=true->(qBCc<=(qBC5 x_4)/\(qBC5 x_4)+qBCn<=(qBCf x))/\qBC9+Int.toNat (qBC5 x_4)+qBCm<=List.length [wr IntKind.i64 (qBC8 x)]/\∀(x_5:Int),[wr IntKind.i64 (qBC8 x)][qBC9+Int.toNat (qBC5 x_4)]? =some x_5->∃(Q:Bool->Prop),(qBC3 x_5 x Q c x_4 x_3 x_2)/\(Q true->qBCc=p/\(200:Int)=q/\True)/\(Q false->(qBCq x_5 c)/\qBC9<=qBC9+Int.toNat x_5/\qBC9+Int.toNat x_5+qBCm<=List.length (LX.D x_4)/\∀(x_6:Int),(LX.D x_4)[qBC9+Int.toNat x_5]? =some x_6->∃(x':LX),R_1 x'/\x'.2+qBCm<=x_4.2/\true=true/\((qBC6 c)/\mm2 true (qBCj x x_3) (qBCd x_3 x_2)=mm2 true (qBCj x x_3) (qBCd x_3 x_2)/\(qBC4 c)/\(qBC5 x)=(qBC5 x)/\wr IntKind.i64 (qBC2 x_3 x_2)=wr IntKind.i64 (qBC2 x_3 x_2)/\(qBC6 c)/\(qBC7 c)=(qBC7 c)/\(qBC5 x)=(qBC5 x)/\(qBCo x)/\(qBCf x)=(qBCf x)/\wr IntKind.i64 (qBC8 x_4)=(qBC5 x')/\True)/\(List.set (LX.D x_4) (qBC9+Int.toNat x_5) (qBCd x_3 x_2)=LX.D x'/\qBC9=qBC9)/\(qBCv x)/\True))/\(decide ((qBC5 x_4)<(qBCf x))=false->∃(x':LX),R x'/\x'.2+qBCm<=x.2/\true=true/\(qBCa c x x_3 x_2 x')/\(qBCi x_4 x')/\True))/\(Q false->∃(R_1:LX->Prop),(∃(x_4:LX),R_1 x_4/\true=true/\((qBC6 c)/\mm2 true (qBCj x x_3) (qBCd x_3 x_2)=mm2 true (qBCj x x_3) (qBCd x_3 x_2)/\(qBC4 c)/\(qBC5 x)=(qBC5 x)/\wr IntKind.i64 (qBC2 x_3 x_2)=wr IntKind.i64 (qBC2 x_3 x_2)/\(qBC6 c)/\(qBC7 c)=(qBC7 c)/\(qBC5 x)=(qBC5 x)/\Value.slice none qBC9 qBC9=Value.slice none qBC9 qBC9/\qBCc=qBCc/\qBCc=(qBC5 x_4)/\True)/\(qBCi x x_4)/\True)/\∀(x_4:LX),R_1 x_4->(decide ((qBC5 x_4)<qBCc)=true->False)/\(decide ((qBC5 x_4)<qBCc)=false->∃(x':LX),R x'/\x'.2+qBCm<=x.2/\true=true/\(qBCa c x x_3 x_2 x')/\(qBCi x_4 x')/\True))))))/\(decide ((qBC5 x)<(qBC7 c))=false->(decide (LX.m x>(64:Int))=true->qBCc=p/\(2:Int)=q/\True)/\(decide (LX.m x>(64:Int))=false->LX.m x=p/\qBCc=q/\True))))))))):=by kernel_rfl
end
section
open Go
theorem Zv1 {n k:Nat} (h1:1<=k) (h2:k<n) {D:List Int} (hD:D=List.replicate k (-1)++List.replicate (n-k) 0):
 List.take k D++List.take (n-k) (List.take k D)++List.drop (k+min (List.take k D).length (n-k)) D=List.replicate (k+min k (n-k)) (-1)++List.replicate (n-(k+min k (n-k))) 0:=by
 subst hD
 have e1:List.take k (List.replicate k (-1:Int)++List.replicate (n-k) 0)=List.replicate k (-1):=List.take_left' (by simp)
 rw [e1,List.length_replicate,List.take_replicate]
 have e2:List.drop (k+min k (n-k)) (List.replicate k (-1:Int)++List.replicate (n-k) 0)=List.drop (min k (n-k)) (List.replicate (n-k) 0):=by
  rw [List.drop_append,List.length_replicate,List.drop_eq_nil_of_le (by simp),show k+min k (n-k)-k=min k (n-k) by omega,List.nil_append]
 rw [e2,List.drop_replicate,List.replicate_append_replicate,Nat.min_comm (n-k) k,show n-k-min k (n-k)=n-(k+min k (n-k)) by omega]
structure RV (c:List Ins) (x:LX):Prop where
 kr:x.k+x.r=c.length
 len:x.D.length=c.length
 lo:∀d∈x.D,-1<=d/\d<=x.k
 run:fromF c.length (c.drop x.k) x.k x.D x.m=fromF c.length c 0 (deps c) 0
structure RN (c:List Ins) (x:LX) (after:Int) (ns:List Int) (y:LX):Prop where
 kr:y.k+y.r=ns.length
 len:y.D.length=c.length
 lo:∀d∈y.D,-1<=d/\d<=x.k+1
 run:setF c.length x.k after (ns.drop y.k) y.D=setF c.length x.k after ns x.D
theorem Z2j (op:Int):0<=(eff op).1/\(eff op).1<=2/\0<=(eff op).2/\(eff op).2<=1:=by
 unfold eff
 repeat' split
 all_goals simp
theorem Zbm {D:List Int} {j:Nat} {a lo hi:Int} (h:∀d∈D,lo<=d/\d<=hi) (h2:lo<=a/\a<=hi):∀d∈D.set j a,lo<=d/\d<=hi:=by
 intro d hd
 rcases List.mem_or_eq_of_mem_set hd with h3|h3
 · exact h d h3
 · subst h3;exact h2
theorem Zdi (c:List Ins):PureC E 29 [.psl .ins c false] (.tup [.int false .i64 (verF c).1,.int false .i64 (verF c).2]):=by
 refine Za E_ok (Zg E_ok Z3g 400) ?_
 rw [Zlr]; delta qBC7 qBCc qBCn qBCt qBC9 qBC1 qBCr qBC4 qBC5 qBCe qBCp qBCm qBCs qBC6 qBC8 qBCi qBCg qBCj qBCd qBC2 qBCk qBCb qBCl qBCh qBC3 qBCq qBCa qBCu qBCo qBCf qBCv
 have s1:4096<c.length->verF c=(0,2):=fun h=>by unfold verF;rw [if_pos h]
 have s2:c.length=0->verF c=(0,200):=fun h=>by unfold verF;rw [if_neg (by omega),if_pos (.inl h)]
 have s3:c.length<=4096->c.all formedF=false->verF c=(0,200):=fun h h2=>by unfold verF;rw [if_neg (by omega),if_pos (.inr h2)]
 have s4:c.length<=4096->c.length≠0->c.all formedF=true->verF c=endF (fromF c.length c 0 (deps c) 0):=fun h h2 h3=>by unfold verF;rw [if_neg (by omega),if_neg (by simp [h2,h3])]
 generalize verF c=V at*
 simp only [Z9,Zy,Xz,X0,X1,beq_iff_eq,bne_iff_ne,beq_eq_false_iff_ne,bne_eq_false_iff_eq,decide_eq_true_eq,decide_eq_false_iff_not,Bool.or_eq_true,Bool.or_eq_false_iff,Bool.not_eq_true',Bool.not_eq_false',Bool.and_eq_true,Bool.and_true,Bool.true_and,Bool.and_eq_false_iff,beq_self_eq_true,Z4,Yf,ne_eq,and_true,true_and,Bool.true_eq_false,Bool.false_eq_true,false_or,or_false,true_implies,Int.ofNat_eq_natCast,not_true_eq_false,not_false_eq_true,Decidable.not_not,gt_iff_lt,ge_iff_le]
 refine ⟨fun h=> ?_,fun h=>⟨fun h2=> ?_,fun h2=>⟨by omega,fun h3=> ?_,fun h3=>⟨fun h4=>by omega,fun h4=> ?_⟩⟩⟩⟩
 · rw [s1 (by omega)];simp
 · rw [s2 (by omega)];simp
 · rw [s3 (by omega) (by simpa using h3)];simp
 have hn:c.length<=4096:=by omega
 rw [s4 hn (by omega) h3]
 clear s1 s2 s3 s4 V h4 h
 have eU:wr .u64 (c.length:Int)=c.length:=Zyj (by omega) (by omega)
 have eI:wr .i64 (c.length:Int)=c.length:=wr64 (by omega) (by omega)
 simp only [eU,eI,Int.toNat_natCast,Nat.zero_add,Int.toNat_zero]
 refine ⟨by omega,?_⟩
 refine ⟨fun b=>b=false,⟨fun h=>by omega,fun _=>⟨fun h=>by omega,fun _=>rfl⟩⟩,fun h=>by simp at h,fun _=> ?_⟩
 refine ⟨by omega,Int.le_refl _,by omega,by simp,?_⟩
 refine ⟨fun x=>1<=x.k/\x.k+x.r=c.length/\x.D=List.replicate x.k (-1)++List.replicate (c.length-x.k) 0,⟨⟨1,c.length-1,List.replicate 1 (-1)++List.replicate (c.length-1) 0,0⟩,⟨Nat.le_refl _,by show 1+(c.length-1)=_;omega,rfl⟩,?_⟩,fun x hx=> ?_⟩
 · have e:min ([-1]:List Int).length c.length=1:=by simp;omega
   rw [e]
   refine ⟨by simp,?_⟩
   have e2:List.take c.length [(-1:Int)]= [-1]:=List.take_of_length_le (by simp;omega)
   rw [e2]
   simp
 obtain ⟨hk1,hkr,hD⟩:=hx
 have hDl:x.D.length=c.length:=by rw [hD];simp;omega
 refine ⟨fun hlt=>⟨by omega,fun _=>⟨by omega,by omega,by omega,?_⟩,fun h=>absurd hlt h⟩,fun hge=> ?_⟩
 · have e:=Zv1 hk1 (by omega:x.k<c.length) hD
   have e3:(List.take x.k x.D).length=x.k:=by rw [List.length_take];omega
   rw [e3] at e⊢
   refine ⟨⟨x.k+min x.k (c.length-x.k),c.length-(x.k+min x.k (c.length-x.k)),_,0⟩,⟨by show 1<=x.k+_;omega,by show x.k+min x.k (c.length-x.k)+(c.length-(x.k+min x.k (c.length-x.k)))=_;omega,rfl⟩,by show c.length-(x.k+min x.k (c.length-x.k))+1<=x.r;omega,?_,e⟩
   rw [wr64 (by omega) (by omega)]
   show _=((x.k+min x.k (c.length-x.k):Nat):Int)
   omega
 have hkn:x.k=c.length:=by omega
 have hD:x.D=List.replicate c.length (-1):=by rw [hD,hkn,Nat.sub_self];simp
 clear hk1 hkr hge
 refine ⟨by omega,by omega,by omega,fun z hz=> ?_⟩
 rw [hD] at hDl⊢
 clear hz hD hkn
 refine ⟨RV c,⟨⟨0,c.length,deps c,0⟩,⟨by show 0+c.length=_;omega,by simp [deps],?_,by simp⟩,by simp [deps]⟩,fun x hR=> ?_⟩
 · intro d hd
   rcases List.mem_or_eq_of_mem_set hd with h|h
   · rw [List.mem_replicate] at h;show-1<=d/\d<=0;omega
   · show-1<=d/\d<=0;omega
 have hlen:=hR.len
 refine ⟨fun hlt=>⟨by omega,by omega,fun x2 hx2=>⟨by omega,by omega,fun x3 hx3=> ?_⟩⟩,fun hge=> ?_⟩
 · have hb:=hR.lo x3 (List.mem_of_getElem? hx3)
   have he:=Z2j x2.op
   have hkr:=hR.kr
   have hget:x.D.getD x.k 0=x3:=by simp [List.getD_eq_getElem?_getD,hx3]
   have hdrop:c.drop x.k=x2::c.drop (x.k+1):=by
    obtain ⟨h1,rfl⟩:=gA9.1 hx2
    exact List.drop_eq_getElem_cons h1
   have hrun:=hR.run
   rw [hdrop] at hrun
   simp only [fromF] at hrun
   have hfo:formedF x2=true:=List.all_eq_true.1 h3 x2 (List.mem_of_getElem? hx2)
   have eK:wr .i64 ((x.k:Int)+1)=x.k+1:=wr64 (by omega) (by omega)
   have eA:wr .i64 (wr .i64 (x3-(eff x2.op).1)+(eff x2.op).2)=x3-(eff x2.op).1+(eff x2.op).2:=by
    have e0:wr .i64 (x3-(eff x2.op).1)=x3-(eff x2.op).1:=wr64 (by omega) (by omega)
    rw [e0];exact wr64 (by omega) (by omega)
   simp only [eK,eA,Z4]
   refine ⟨fun hneg=> ?_,fun hneg=> ?_⟩
   · have hsome:rndF c.length x.k x2 x.D x.m=some (x.D,x.m):=by unfold rndF;rw [hget,if_pos hneg]
     rw [hsome] at hrun
     exact ⟨⟨x.k+1,x.r-1,x.D,x.m⟩,⟨by show x.k+1+(x.r-1)=_;omega,hlen,fun d hd=>by have:=hR.lo d hd;show-1<=d/\d<=((x.k+1:Nat):Int);omega,hrun⟩,by show x.r-1+1<=x.r;omega,by simp⟩
   refine ⟨fun b=>(b=true↔(x3<(eff x2.op).1\/(x2.op=15/\x3≠1)\/(x2.op=16/\x3≠0))),?_,fun hQ=> ?_,fun hQ=> ?_⟩
   · repeat' (first|(refine And.intro ?_ ?_)|(intro h))
     all_goals simp
     all_goals omega
   · have hQ:=hQ.1 rfl
     have hnone:rndF c.length x.k x2 x.D x.m=none:=by unfold rndF;rw [hget,if_neg hneg,if_pos hQ]
     rw [hnone] at hrun
     rw [<-hrun]
     simp [endF]
   · have hbad:¬(x3<(eff x2.op).1\/(x2.op=15/\x3≠1)\/(x2.op=16/\x3≠0)):=fun h=>absurd (hQ.2 h) (by simp)
     clear hQ
     refine ⟨fun b=>(b=true↔(x2.op=13\/x2.op=14)),?_,fun hQ=> ?_,fun hQ=> ?_⟩
     · repeat' (first|(refine And.intro ?_ ?_)|(intro h))
       all_goals simp
       all_goals omega
     · have hQ:=hQ.1 rfl
       refine ⟨fun b=>(b=true↔(x2.op≠14/\x2.op≠15/\x2.op≠16)),?_,fun hQ2=> ?_,fun hQ2=> ?_⟩
       · repeat' (first|(refine And.intro ?_ ?_)|(intro h))
         all_goals simp
         all_goals omega
       · have hQ2:=hQ2.1 rfl
         have hnx:nextF x.k x2= [x2.n,(x.k:Int)+1]:=by unfold nextF;rw [if_neg (by omega),if_neg (by omega),if_pos (by omega)]
         simp only [List.length_cons,List.length_nil,Nat.zero_add,List.take_succ_cons,List.take_zero,List.cons_append,List.nil_append]
         refine ⟨by omega,?_⟩
         refine ⟨RN c x (x3-(eff x2.op).1+(eff x2.op).2) [x2.n,(x.k:Int)+1],⟨⟨0,2,x.D,0⟩,⟨rfl,hR.len,fun d hd=>⟨(hR.lo d hd).1,by have:=(hR.lo d hd).2;omega⟩,rfl⟩,by simp⟩,fun y hy=>⟨fun hlt=> ?_,fun hge=> ?_⟩⟩
         · have hyk:y.k<([x2.n,(x.k:Int)+1]).length:=by simp only [List.length_cons,List.length_nil];omega
           refine ⟨by omega,by first|omega|(simp only [List.length_cons,List.length_nil];omega),fun n hy5=> ?_⟩
           have hns:([x2.n,(x.k:Int)+1]).drop y.k=n::([x2.n,(x.k:Int)+1]).drop (y.k+1):=by
            obtain ⟨h1,rfl⟩:=gA9.1 hy5
            exact List.drop_eq_getElem_cons h1
           have hset:=hy.run
           rw [hns] at hset
           generalize hS:setF c.length x.k (x3-(eff x2.op).1+(eff x2.op).2) [x2.n,(x.k:Int)+1] x.D=SF at hset
           simp only [setF] at hset
           refine ⟨fun b=>(b=true↔(n<=x.k\/(c.length:Int)<=n\/(0<=y.D.getD n.toNat 0/\y.D.getD n.toNat 0≠x3-(eff x2.op).1+(eff x2.op).2))),?_,fun hQ=> ?_,fun hQ=> ?_⟩
           · refine ⟨fun h=>by simp [h],fun h=>⟨fun h'=>by simp [h'],fun h'=>⟨by omega,by rw [hy.len];omega,fun z hz=> ?_⟩⟩⟩
             have hg:y.D.getD n.toNat 0=z:=by simp [List.getD_eq_getElem?_getD,hz]
             rw [hg]
             refine ⟨fun h0=>⟨by omega,by rw [hy.len];omega,fun z2 hz2=> ?_⟩,fun h0=>by simp;omega⟩
             rw [hz] at hz2;cases hz2
             exact ⟨fun h1=>by simp;omega,fun h1=>by simp;omega⟩
           · have hQ:=hQ.1 rfl
             rw [if_pos hQ] at hset
             have hnone:rndF c.length x.k x2 x.D x.m=none:=by
              unfold rndF
              rw [hget,if_neg hneg,if_neg hbad,hnx,hS,<-hset]
             rw [hnone] at hrun
             rw [<-hrun]
             simp [endF]
           · have hQ:¬(n<=x.k\/(c.length:Int)<=n\/(0<=y.D.getD n.toNat 0/\y.D.getD n.toNat 0≠x3-(eff x2.op).1+(eff x2.op).2)):=fun h=>by simp at hQ;exact absurd h (by simpa using hQ)
             rw [if_neg hQ] at hset
             refine ⟨by omega,Nat.zero_le _,by rw [hy.len];omega,fun z hz=> ?_⟩
             refine ⟨⟨y.k+1,y.r-1,y.D.set n.toNat (x3-(eff x2.op).1+(eff x2.op).2),0⟩,⟨by have:=hy.kr;show y.k+1+(y.r-1)=_;omega,by simp [hy.len],Zbm hy.lo (by omega),hset.trans hS.symm⟩,by have:=hy.kr;show y.r-1+1<=y.r;omega,?_⟩
             rw [wr64 (by omega) (by omega)]
             simp
         · have hyk:([x2.n,(x.k:Int)+1]).drop y.k= []:=List.drop_eq_nil_of_le (by simp only [List.length_cons,List.length_nil];omega)
           have hset:=hy.run
           rw [hyk] at hset
           generalize hS:setF c.length x.k (x3-(eff x2.op).1+(eff x2.op).2) [x2.n,(x.k:Int)+1] x.D=SF at hset
           simp only [setF] at hset
           have hsome:rndF c.length x.k x2 x.D x.m=some (y.D,max (max x.m x3) (x3-(eff x2.op).1+(eff x2.op).2)):=by
            unfold rndF
            rw [hget,if_neg hneg,if_neg hbad,hnx,hS,<-hset]
           rw [hsome] at hrun
           refine ⟨⟨x.k+1,x.r-1,y.D,_⟩,⟨by have:=hR.kr;show x.k+1+(x.r-1)=_;omega,hy.len,fun d hd=>by have:=hy.lo d hd;show-1<=d/\d<=((x.k+1:Nat):Int);omega,hrun⟩,by have:=hR.kr;show x.r-1+1<=x.r;omega,?_⟩
           simp
       · have hQ2:¬(x2.op≠14/\x2.op≠15/\x2.op≠16):=fun h=>absurd (hQ2.2 h) (by simp)
         have hnx:nextF x.k x2= [x2.n]:=by unfold nextF;rw [if_neg (by omega),if_pos (by omega)]
         simp only [List.length_cons,List.length_nil,Nat.zero_add]
         refine ⟨RN c x (x3-(eff x2.op).1+(eff x2.op).2) [x2.n],⟨⟨0,1,x.D,0⟩,⟨rfl,hR.len,fun d hd=>⟨(hR.lo d hd).1,by have:=(hR.lo d hd).2;omega⟩,rfl⟩,by simp⟩,fun y hy=>⟨fun hlt=> ?_,fun hge=> ?_⟩⟩
         · have hyk:y.k<([x2.n]).length:=by simp only [List.length_cons,List.length_nil];omega
           refine ⟨by omega,by first|omega|(simp only [List.length_cons,List.length_nil];omega),fun n hy5=> ?_⟩
           have hns:([x2.n]).drop y.k=n::([x2.n]).drop (y.k+1):=by
            obtain ⟨h1,rfl⟩:=gA9.1 hy5
            exact List.drop_eq_getElem_cons h1
           have hset:=hy.run
           rw [hns] at hset
           generalize hS:setF c.length x.k (x3-(eff x2.op).1+(eff x2.op).2) [x2.n] x.D=SF at hset
           simp only [setF] at hset
           refine ⟨fun b=>(b=true↔(n<=x.k\/(c.length:Int)<=n\/(0<=y.D.getD n.toNat 0/\y.D.getD n.toNat 0≠x3-(eff x2.op).1+(eff x2.op).2))),?_,fun hQ=> ?_,fun hQ=> ?_⟩
           · refine ⟨fun h=>by simp [h],fun h=>⟨fun h'=>by simp [h'],fun h'=>⟨by omega,by rw [hy.len];omega,fun z hz=> ?_⟩⟩⟩
             have hg:y.D.getD n.toNat 0=z:=by simp [List.getD_eq_getElem?_getD,hz]
             rw [hg]
             refine ⟨fun h0=>⟨by omega,by rw [hy.len];omega,fun z2 hz2=> ?_⟩,fun h0=>by simp;omega⟩
             rw [hz] at hz2;cases hz2
             exact ⟨fun h1=>by simp;omega,fun h1=>by simp;omega⟩
           · have hQ:=hQ.1 rfl
             rw [if_pos hQ] at hset
             have hnone:rndF c.length x.k x2 x.D x.m=none:=by
              unfold rndF
              rw [hget,if_neg hneg,if_neg hbad,hnx,hS,<-hset]
             rw [hnone] at hrun
             rw [<-hrun]
             simp [endF]
           · have hQ:¬(n<=x.k\/(c.length:Int)<=n\/(0<=y.D.getD n.toNat 0/\y.D.getD n.toNat 0≠x3-(eff x2.op).1+(eff x2.op).2)):=fun h=>by simp at hQ;exact absurd h (by simpa using hQ)
             rw [if_neg hQ] at hset
             refine ⟨by omega,Nat.zero_le _,by rw [hy.len];omega,fun z hz=> ?_⟩
             refine ⟨⟨y.k+1,y.r-1,y.D.set n.toNat (x3-(eff x2.op).1+(eff x2.op).2),0⟩,⟨by have:=hy.kr;show y.k+1+(y.r-1)=_;omega,by simp [hy.len],Zbm hy.lo (by omega),hset.trans hS.symm⟩,by have:=hy.kr;show y.r-1+1<=y.r;omega,?_⟩
             rw [wr64 (by omega) (by omega)]
             simp
         · have hyk:([x2.n]).drop y.k= []:=List.drop_eq_nil_of_le (by simp only [List.length_cons,List.length_nil];omega)
           have hset:=hy.run
           rw [hyk] at hset
           generalize hS:setF c.length x.k (x3-(eff x2.op).1+(eff x2.op).2) [x2.n] x.D=SF at hset
           simp only [setF] at hset
           have hsome:rndF c.length x.k x2 x.D x.m=some (y.D,max (max x.m x3) (x3-(eff x2.op).1+(eff x2.op).2)):=by
            unfold rndF
            rw [hget,if_neg hneg,if_neg hbad,hnx,hS,<-hset]
           rw [hsome] at hrun
           refine ⟨⟨x.k+1,x.r-1,y.D,_⟩,⟨by have:=hR.kr;show x.k+1+(x.r-1)=_;omega,hy.len,fun d hd=>by have:=hy.lo d hd;show-1<=d/\d<=((x.k+1:Nat):Int);omega,hrun⟩,by have:=hR.kr;show x.r-1+1<=x.r;omega,?_⟩
           simp
     · have hQ:¬(x2.op=13\/x2.op=14):=fun h=>absurd (hQ.2 h) (by simp)
       refine ⟨fun b=>(b=true↔(x2.op≠14/\x2.op≠15/\x2.op≠16)),?_,fun hQ2=> ?_,fun hQ2=> ?_⟩
       · repeat' (first|(refine And.intro ?_ ?_)|(intro h))
         all_goals simp
         all_goals omega
       · have hQ2:=hQ2.1 rfl
         have hnx:nextF x.k x2= [(x.k:Int)+1]:=by unfold nextF;rw [if_neg (by omega),if_neg (by omega),if_neg (by omega)]
         simp only [List.length_cons,List.length_nil,Nat.zero_add]
         refine ⟨RN c x (x3-(eff x2.op).1+(eff x2.op).2) [(x.k:Int)+1],⟨⟨0,1,x.D,0⟩,⟨rfl,hR.len,fun d hd=>⟨(hR.lo d hd).1,by have:=(hR.lo d hd).2;omega⟩,rfl⟩,by simp⟩,fun y hy=>⟨fun hlt=> ?_,fun hge=> ?_⟩⟩
         · have hyk:y.k<([(x.k:Int)+1]).length:=by simp only [List.length_cons,List.length_nil];omega
           refine ⟨by omega,by first|omega|(simp only [List.length_cons,List.length_nil];omega),fun n hy5=> ?_⟩
           have hns:([(x.k:Int)+1]).drop y.k=n::([(x.k:Int)+1]).drop (y.k+1):=by
            obtain ⟨h1,rfl⟩:=gA9.1 hy5
            exact List.drop_eq_getElem_cons h1
           have hset:=hy.run
           rw [hns] at hset
           generalize hS:setF c.length x.k (x3-(eff x2.op).1+(eff x2.op).2) [(x.k:Int)+1] x.D=SF at hset
           simp only [setF] at hset
           refine ⟨fun b=>(b=true↔(n<=x.k\/(c.length:Int)<=n\/(0<=y.D.getD n.toNat 0/\y.D.getD n.toNat 0≠x3-(eff x2.op).1+(eff x2.op).2))),?_,fun hQ=> ?_,fun hQ=> ?_⟩
           · refine ⟨fun h=>by simp [h],fun h=>⟨fun h'=>by simp [h'],fun h'=>⟨by omega,by rw [hy.len];omega,fun z hz=> ?_⟩⟩⟩
             have hg:y.D.getD n.toNat 0=z:=by simp [List.getD_eq_getElem?_getD,hz]
             rw [hg]
             refine ⟨fun h0=>⟨by omega,by rw [hy.len];omega,fun z2 hz2=> ?_⟩,fun h0=>by simp;omega⟩
             rw [hz] at hz2;cases hz2
             exact ⟨fun h1=>by simp;omega,fun h1=>by simp;omega⟩
           · have hQ:=hQ.1 rfl
             rw [if_pos hQ] at hset
             have hnone:rndF c.length x.k x2 x.D x.m=none:=by
              unfold rndF
              rw [hget,if_neg hneg,if_neg hbad,hnx,hS,<-hset]
             rw [hnone] at hrun
             rw [<-hrun]
             simp [endF]
           · have hQ:¬(n<=x.k\/(c.length:Int)<=n\/(0<=y.D.getD n.toNat 0/\y.D.getD n.toNat 0≠x3-(eff x2.op).1+(eff x2.op).2)):=fun h=>by simp at hQ;exact absurd h (by simpa using hQ)
             rw [if_neg hQ] at hset
             refine ⟨by omega,Nat.zero_le _,by rw [hy.len];omega,fun z hz=> ?_⟩
             refine ⟨⟨y.k+1,y.r-1,y.D.set n.toNat (x3-(eff x2.op).1+(eff x2.op).2),0⟩,⟨by have:=hy.kr;show y.k+1+(y.r-1)=_;omega,by simp [hy.len],Zbm hy.lo (by omega),hset.trans hS.symm⟩,by have:=hy.kr;show y.r-1+1<=y.r;omega,?_⟩
             rw [wr64 (by omega) (by omega)]
             simp
         · have hyk:([(x.k:Int)+1]).drop y.k= []:=List.drop_eq_nil_of_le (by simp only [List.length_cons,List.length_nil];omega)
           have hset:=hy.run
           rw [hyk] at hset
           generalize hS:setF c.length x.k (x3-(eff x2.op).1+(eff x2.op).2) [(x.k:Int)+1] x.D=SF at hset
           simp only [setF] at hset
           have hsome:rndF c.length x.k x2 x.D x.m=some (y.D,max (max x.m x3) (x3-(eff x2.op).1+(eff x2.op).2)):=by
            unfold rndF
            rw [hget,if_neg hneg,if_neg hbad,hnx,hS,<-hset]
           rw [hsome] at hrun
           refine ⟨⟨x.k+1,x.r-1,y.D,_⟩,⟨by have:=hR.kr;show x.k+1+(x.r-1)=_;omega,hy.len,fun d hd=>by have:=hy.lo d hd;show-1<=d/\d<=((x.k+1:Nat):Int);omega,hrun⟩,by have:=hR.kr;show x.r-1+1<=x.r;omega,?_⟩
           simp
       · have hQ2:¬(x2.op≠14/\x2.op≠15/\x2.op≠16):=fun h=>absurd (hQ2.2 h) (by simp)
         have hnx:nextF x.k x2= []:=by unfold nextF;rw [if_pos (by omega)]
         have hsome:rndF c.length x.k x2 x.D x.m=some (x.D,max (max x.m x3) (x3-(eff x2.op).1+(eff x2.op).2)):=by
          unfold rndF
          rw [hget,if_neg hneg,if_neg hbad,hnx]
          rfl
         rw [hsome] at hrun
         refine ⟨fun y=>y.D=x.D,⟨⟨0,0,x.D,0⟩,rfl,by simp⟩,fun y hy=>⟨fun h=>by omega,fun _=> ?_⟩⟩
         refine ⟨⟨x.k+1,x.r-1,x.D,_⟩,⟨by show x.k+1+(x.r-1)=_;omega,hlen,fun d hd=>by have:=hR.lo d hd;show-1<=d/\d<=((x.k+1:Nat):Int);omega,hrun⟩,by show x.r-1+1<=x.r;omega,?_⟩
         simp [hy]
 · have hrun:=hR.run
   rw [List.drop_eq_nil_of_le (by omega)] at hrun
   simp only [fromF] at hrun
   rw [<-hrun]
   refine ⟨fun h=> ?_,fun h=> ?_⟩
   · simp [endF,h]
   · simp [endF,h]
end
section
open Go
def Z4c:=(.cons dI (.cons dI (.cons dI (.cons dI (.cons dI (.cons dI (.cons dI (.cons dI (.cons dI (.cons dI (.cons dI (.cons dI (.cons dI (.cons dI (.cons dI (.cons dI (.cons dI .nil)))))))))))))))):DcL E (Int×Int×Int×Int×Int×Int×Int×Int×Int×Int×Int×Int×Int×Int×Int×Int×Int×Unit))
def dEnv:Dc E Env:= .map (dAgg Z4c) (fun x=>⟨x.1,x.2.1,x.2.2.1,x.2.2.2.1,x.2.2.2.2.1,x.2.2.2.2.2.1,x.2.2.2.2.2.2.1,x.2.2.2.2.2.2.2.1,x.2.2.2.2.2.2.2.2.1,x.2.2.2.2.2.2.2.2.2.1,x.2.2.2.2.2.2.2.2.2.2.1,x.2.2.2.2.2.2.2.2.2.2.2.1,x.2.2.2.2.2.2.2.2.2.2.2.2.1,x.2.2.2.2.2.2.2.2.2.2.2.2.2.1,x.2.2.2.2.2.2.2.2.2.2.2.2.2.2.1,x.2.2.2.2.2.2.2.2.2.2.2.2.2.2.2.1,x.2.2.2.2.2.2.2.2.2.2.2.2.2.2.2.2.1⟩)
 (fun x=>(x.has,x.v0,x.v1,x.v2,x.v3,x.v4,x.v5,x.v6,x.v7,x.v8,x.v9,x.v10,x.v11,x.v12,x.v13,x.v14,x.v15,())) (fun _=>rfl)
def dSt:Dc E St:= .map (dAgg (.cons dI (.cons dI (.cons dI (.cons dI (dL1 Z32))))):Dc E (Int×Int×Int×Int×List Int×Unit)) (fun x=>⟨x.1,x.2.1,x.2.2.1,x.2.2.2.1,x.2.2.2.2.1⟩) (fun s=>(s.pc,s.fuel,s.status,s.clause,s.stack,())) (fun _=>rfl)
def envV (v:Env):SV thy:= .agg [.int false .i64 v.has,.int false .i64 v.v0,.int false .i64 v.v1,.int false .i64 v.v2,.int false .i64 v.v3,.int false .i64 v.v4,.int false .i64 v.v5,.int false .i64 v.v6,.int false .i64 v.v7,.int false .i64 v.v8,.int false .i64 v.v9,.int false .i64 v.v10,.int false .i64 v.v11,.int false .i64 v.v12,.int false .i64 v.v13,.int false .i64 v.v14,.int false .i64 v.v15]
def stV (s:St):SV thy:= .agg [.int false .i64 s.pc,.int false .i64 s.fuel,.int false .i64 s.status,.int false .i64 s.clause,.psl .ints s.stack false]
def Sver:Sum thy:=sumP (dL1 Zzg) (fun _=>True) fun x=> .tup [.int false .i64 (verF x.1).1,.int false .i64 (verF x.1).2]
def F5:Fns thy:=addS F4 29 Sver
theorem Z2w:FnsOk E F5:=Zf Z3g (Yz E_ok (Zi (f:=29) rfl) fun x _=>Zdi x.1)
abbrev qBEl (a0:St):=(St.stack a0)
abbrev qBE1 (a0:St):=(↑(List.length (qBEl a0)):Int)
abbrev qBEk:=(0:Int)
abbrev qBE8 (a0:St):=(Int.toNat (wr IntKind.i64 ((qBE1 a0)-qBEk)))
abbrev qBE9:=(1:Nat)
abbrev qBE2 (a0:St):=(List.length (List.take (qBE8 a0) (qBEl a0))+qBE9)
abbrev qBEd:=(1:Int)
abbrev qBEi (a0:St):=(St.fuel a0-qBEd)
abbrev qBEb (a0:St) (b0:St):=(St.stack a0=St.stack b0/\(false=true->false=true))
abbrev qBE3 (a0:Bool->Prop) (b0:St) (c0:St):=(a0 true->St.pc b0=St.pc c0/\wr IntKind.i64 (qBEi b0)=St.fuel c0/\(13:Int)=St.status c0/\St.clause b0=St.clause c0/\(qBEb b0 c0)/\True)
abbrev qBE4 (a0:St):=(qBEk<=wr IntKind.i64 ((qBE1 a0)-qBEk)/\wr IntKind.i64 ((qBE1 a0)-qBEk)=wr IntKind.i64 ((qBE1 a0)-qBEk)/\wr IntKind.i64 ((qBE1 a0)-qBEk)<=(qBE1 a0))
abbrev qBEc (a0:St):=(Int.toNat (wr IntKind.i64 ((qBE1 a0)-(2:Int))))
abbrev qBE5 (a0:St):=(List.length (List.take (qBEc a0) (qBEl a0))+qBE9)
abbrev qBE6 (a0:St):=(wr IntKind.i64 ((qBE1 a0)-qBEd)-qBEk)
abbrev qBE7 (a0:St):=(qBEk<=wr IntKind.i64 ((qBE1 a0)-(2:Int))/\wr IntKind.i64 ((qBE1 a0)-(2:Int))=wr IntKind.i64 ((qBE1 a0)-(2:Int))/\wr IntKind.i64 ((qBE1 a0)-(2:Int))<=(qBE1 a0))
abbrev qBEa (a0:St):=(wr IntKind.i64 ((qBE1 a0)-qBEd)-qBEd)
abbrev qBEn (a0:St):=(Int.toNat (wr IntKind.i64 ((qBE1 a0)-qBEd)))
abbrev qBEe (a0:St):=(List.length (List.take (qBEn a0) (qBEl a0))+qBE9)
abbrev qBEf:=(-9007199254740992:Int)
abbrev qBEg:=(9007199254740992:Int)
abbrev qBEh:=(140737488355328:Nat)
abbrev qBEj (a0:St):=(qBEk<=wr IntKind.i64 ((qBE1 a0)-qBEd)/\wr IntKind.i64 ((qBE1 a0)-qBEd)=wr IntKind.i64 ((qBE1 a0)-qBEd)/\wr IntKind.i64 ((qBE1 a0)-qBEd)<=(qBE1 a0))
abbrev qBEm:=(0:Nat)
abbrev qBEo (a0:St):=(St.pc a0+qBEd)
abbrev qBEp (a0:St):=(wr IntKind.i64 (qBE6 a0))
abbrev qBEq:=(8:Nat)
abbrev qBEr (a0:St):=(wr IntKind.i64 (qBEa a0))
abbrev qBEs (a0:Int) (b0:St) (c0:St):=(decide (wr IntKind.i64 (a0+(qBE1 b0))>=(64:Int))=true->St.pc b0=St.pc c0/\wr IntKind.i64 (qBEi b0)=St.fuel c0/\(210:Int)=St.status c0/\St.clause b0=St.clause c0/\(qBEb b0 c0)/\True)
abbrev qBEt:=(↑(qBEm+qBE9+qBE9+qBE9+qBE9+qBE9+qBE9+qBE9+qBE9+qBE9+qBE9+qBE9+qBE9+qBE9+qBE9+qBE9):Int)
abbrev qBEu:=(↑(qBEm+qBE9+qBE9+qBE9+qBE9+qBE9+qBE9+qBE9+qBE9+qBE9+qBE9+qBE9+qBE9+qBE9+qBE9):Int)
abbrev qBEv:=(↑(qBEm+qBE9+qBE9+qBE9+qBE9+qBE9+qBE9+qBE9+qBE9+qBE9+qBE9+qBE9+qBE9+qBE9):Int)
abbrev qBEw (a0:Env) (b0:Ins):=(Zo BinOp.and IntKind.i64 (Env.has a0) (wr IntKind.i64 (qBEd*(2:Int)^min (Int.toNat (Ins.n b0)) (IntKind.bits IntKind.i64)))==qBEk)
abbrev qBEx:=(↑(qBEm+qBE9+qBE9+qBE9+qBE9+qBE9+qBE9+qBE9+qBE9+qBE9+qBE9+qBE9+qBE9):Int)
abbrev qBEy (a0:St) (b0:St):=(qBEm+(qBEe a0)<=List.length (List.take (qBEn a0) (qBEl a0)++ [qBEk])/\List.take (qBEe a0) (List.take (qBEn a0) (qBEl a0)++ [qBEk])=St.stack b0)
abbrev qBEz:=(↑(qBEm+qBE9+qBE9+qBE9+qBE9+qBE9+qBE9+qBE9+qBE9+qBE9+qBE9+qBE9):Int)
abbrev Zz7:=(↑(qBEm+qBE9+qBE9+qBE9+qBE9+qBE9+qBE9+qBE9+qBE9+qBE9+qBE9):Int)
abbrev Zz8:=(↑(qBEm+qBE9+qBE9+qBE9+qBE9+qBE9+qBE9+qBE9+qBE9+qBE9):Int)
abbrev Zdx:=(10:Int)
abbrev Zz9:=(↑(qBEm+qBE9+qBE9+qBE9+qBE9+qBE9+qBE9+qBE9+qBE9):Int)
abbrev Z0a:=(↑(qBEm+qBE9+qBE9+qBE9+qBE9+qBE9+qBE9+qBE9):Int)
abbrev Zsg (a0:Int) (b0:Int):=(Prod.snd (divF a0 b0 (8:Int)) !=qBEk)
abbrev Zsh (a0:Int) (b0:Int):=(Prod.snd (divF a0 b0 (9:Int)) !=qBEk)
abbrev Z0b:=(↑(qBEm+qBE9+qBE9+qBE9+qBE9+qBE9+qBE9):Int)
abbrev Z0c:=(↑(qBEm+qBE9+qBE9+qBE9+qBE9+qBE9):Int)
abbrev Zsi (a0:Int) (b0:Int):=(Prod.snd (divF a0 b0 Zdx) !=qBEk)
theorem Zin (c:List Ins) (v:Env) (s:St) (below:Int) (z:St):Zr E F5 (vc E F5 400) 32 [.psl .ins c false,envV v,stV s,.int false .i64 below] hp0 0 (fun r=>ret E (patch hp0 0 r) r.v (stV z))=(
 ((St.fuel s==qBEk)=true->St.pc s=St.pc z/\St.fuel s=St.fuel z/\(220:Int)=St.status z/\St.clause s=St.clause z/\(qBEb s z)/\True)/\((St.fuel s==qBEk)=false->qBEk<=St.pc s/\St.pc s+qBEd<=(↑(List.length c):Int)/\∀(x:Ins),c[Int.toNat (St.pc s)]? =some x->True/\(decide ((qBE1 s)<Wj (Ins.op x))=true->St.pc s=St.pc z/\wr IntKind.i64 (qBEi s)=St.fuel z/\(210:Int)=St.status z/\St.clause s=St.clause z/\(qBEb s z)/\True)/\(decide ((qBE1 s)<Wj (Ins.op x))=false->((Ins.op x==qBEd)=true->(qBEs below s z)/\(decide (wr IntKind.i64 (below+(qBE1 s))>=(64:Int))=false->(qBE4 s)/\(qBE2 s)*qBEq<=qBEh/\wr IntKind.i64 (qBEo s)=St.pc z/\wr IntKind.i64 (qBEi s)=St.fuel z/\St.status s=St.status z/\St.clause s=St.clause z/\(qBEm+(qBE2 s)<=List.length (List.take (qBE8 s) (qBEl s)++ [Ins.n x])/\List.take (qBE2 s) (List.take (qBE8 s) (qBEl s)++ [Ins.n x])=St.stack z)/\True))/\((Ins.op x==qBEd)=false->((Ins.op x==(2:Int))=true->(qBEs below s z)/\(decide (wr IntKind.i64 (below+(qBE1 s))>=(64:Int))=false->qBEk<=Ins.n x/\((qBEw v x)=true->St.pc s=St.pc z/\wr IntKind.i64 (qBEi s)=St.fuel z/\(191:Int)=St.status z/\St.clause s=St.clause z/\(qBEb s z)/\True)/\((qBEw v x)=false->qBEk<=Ins.n x/\Ins.n x+qBEd<=(↑(16:Nat):Int)/\((Ins.n x==(↑qBEm:Int))=true->∃(Q:Bool->Prop),((decide (Env.v0 v<qBEf)=true->Q true)/\(decide (Env.v0 v<qBEf)=false->(decide (Env.v0 v>qBEg)=true->Q true)/\(decide (Env.v0 v>qBEg)=false->Q false)))/\(qBE3 Q s z)/\(Q false->(qBE4 s)/\(qBE2 s)*qBEq<=qBEh/\wr IntKind.i64 (qBEo s)=St.pc z/\wr IntKind.i64 (qBEi s)=St.fuel z/\St.status s=St.status z/\St.clause s=St.clause z/\(qBEm+(qBE2 s)<=List.length (List.take (qBE8 s) (qBEl s)++ [Env.v0 v])/\List.take (qBE2 s) (List.take (qBE8 s) (qBEl s)++ [Env.v0 v])=St.stack z)/\True))/\((Ins.n x==(↑qBEm:Int))=false->((Ins.n x==(↑(qBEm+qBE9):Int))=true->∃(Q:Bool->Prop),((decide (Env.v1 v<qBEf)=true->Q true)/\(decide (Env.v1 v<qBEf)=false->(decide (Env.v1 v>qBEg)=true->Q true)/\(decide (Env.v1 v>qBEg)=false->Q false)))/\(qBE3 Q s z)/\(Q false->(qBE4 s)/\(qBE2 s)*qBEq<=qBEh/\wr IntKind.i64 (qBEo s)=St.pc z/\wr IntKind.i64 (qBEi s)=St.fuel z/\St.status s=St.status z/\St.clause s=St.clause z/\(qBEm+(qBE2 s)<=List.length (List.take (qBE8 s) (qBEl s)++ [Env.v1 v])/\List.take (qBE2 s) (List.take (qBE8 s) (qBEl s)++ [Env.v1 v])=St.stack z)/\True))/\((Ins.n x==(↑(qBEm+qBE9):Int))=false->((Ins.n x==(↑(qBEm+qBE9+qBE9):Int))=true->∃(Q:Bool->Prop),((decide (Env.v2 v<qBEf)=true->Q true)/\(decide (Env.v2 v<qBEf)=false->(decide (Env.v2 v>qBEg)=true->Q true)/\(decide (Env.v2 v>qBEg)=false->Q false)))/\(qBE3 Q s z)/\(Q false->(qBE4 s)/\(qBE2 s)*qBEq<=qBEh/\wr IntKind.i64 (qBEo s)=St.pc z/\wr IntKind.i64 (qBEi s)=St.fuel z/\St.status s=St.status z/\St.clause s=St.clause z/\(qBEm+(qBE2 s)<=List.length (List.take (qBE8 s) (qBEl s)++ [Env.v2 v])/\List.take (qBE2 s) (List.take (qBE8 s) (qBEl s)++ [Env.v2 v])=St.stack z)/\True))/\((Ins.n x==(↑(qBEm+qBE9+qBE9):Int))=false->((Ins.n x==(↑(qBEm+qBE9+qBE9+qBE9):Int))=true->∃(Q:Bool->Prop),((decide (Env.v3 v<qBEf)=true->Q true)/\(decide (Env.v3 v<qBEf)=false->(decide (Env.v3 v>qBEg)=true->Q true)/\(decide (Env.v3 v>qBEg)=false->Q false)))/\(qBE3 Q s z)/\(Q false->(qBE4 s)/\(qBE2 s)*qBEq<=qBEh/\wr IntKind.i64 (qBEo s)=St.pc z/\wr IntKind.i64 (qBEi s)=St.fuel z/\St.status s=St.status z/\St.clause s=St.clause z/\(qBEm+(qBE2 s)<=List.length (List.take (qBE8 s) (qBEl s)++ [Env.v3 v])/\List.take (qBE2 s) (List.take (qBE8 s) (qBEl s)++ [Env.v3 v])=St.stack z)/\True))/\((Ins.n x==(↑(qBEm+qBE9+qBE9+qBE9):Int))=false->((Ins.n x==
(↑(qBEm+qBE9+qBE9+qBE9+qBE9):Int))=true->∃(Q:Bool->Prop),((decide (Env.v4 v<qBEf)=true->Q true)/\(decide (Env.v4 v<qBEf)=false->(decide (Env.v4 v>qBEg)=true->Q true)/\(decide (Env.v4 v>qBEg)=false->Q false)))/\(qBE3 Q s z)/\(Q false->(qBE4 s)/\(qBE2 s)*qBEq<=qBEh/\wr IntKind.i64 (qBEo s)=St.pc z/\wr IntKind.i64 (qBEi s)=St.fuel z/\St.status s=St.status z/\St.clause s=St.clause z/\(qBEm+(qBE2 s)<=List.length (List.take (qBE8 s) (qBEl s)++ [Env.v4 v])/\List.take (qBE2 s) (List.take (qBE8 s) (qBEl s)++ [Env.v4 v])=St.stack z)/\True))/\((Ins.n x==(↑(qBEm+qBE9+qBE9+qBE9+qBE9):Int))=false->((Ins.n x==Z0c)=true->∃(Q:Bool->Prop),((decide (Env.v5 v<qBEf)=true->Q true)/\(decide (Env.v5 v<qBEf)=false->(decide (Env.v5 v>qBEg)=true->Q true)/\(decide (Env.v5 v>qBEg)=false->Q false)))/\(qBE3 Q s z)/\(Q false->(qBE4 s)/\(qBE2 s)*qBEq<=qBEh/\wr IntKind.i64 (qBEo s)=St.pc z/\wr IntKind.i64 (qBEi s)=St.fuel z/\St.status s=St.status z/\St.clause s=St.clause z/\(qBEm+(qBE2 s)<=List.length (List.take (qBE8 s) (qBEl s)++ [Env.v5 v])/\List.take (qBE2 s) (List.take (qBE8 s) (qBEl s)++ [Env.v5 v])=St.stack z)/\True))/\((Ins.n x==Z0c)=false->((Ins.n x==Z0b)=true->∃(Q:Bool->Prop),((decide (Env.v6 v<qBEf)=true->Q true)/\(decide (Env.v6 v<qBEf)=false->(decide (Env.v6 v>qBEg)=true->Q true)/\(decide (Env.v6 v>qBEg)=false->Q false)))/\(qBE3 Q s z)/\(Q false->(qBE4 s)/\(qBE2 s)*qBEq<=qBEh/\wr IntKind.i64 (qBEo s)=St.pc z/\wr IntKind.i64 (qBEi s)=St.fuel z/\St.status s=St.status z/\St.clause s=St.clause z/\(qBEm+(qBE2 s)<=List.length (List.take (qBE8 s) (qBEl s)++ [Env.v6 v])/\List.take (qBE2 s) (List.take (qBE8 s) (qBEl s)++ [Env.v6 v])=St.stack z)/\True))/\((Ins.n x==Z0b)=false->((Ins.n x==Z0a)=true->∃(Q:Bool->Prop),((decide (Env.v7 v<qBEf)=true->Q true)/\(decide (Env.v7 v<qBEf)=false->(decide (Env.v7 v>qBEg)=true->Q true)/\(decide (Env.v7 v>qBEg)=false->Q false)))/\(qBE3 Q s z)/\(Q false->(qBE4 s)/\(qBE2 s)*qBEq<=qBEh/\wr IntKind.i64 (qBEo s)=St.pc z/\wr IntKind.i64 (qBEi s)=St.fuel z/\St.status s=St.status z/\St.clause s=St.clause z/\(qBEm+(qBE2 s)<=List.length (List.take (qBE8 s) (qBEl s)++ [Env.v7 v])/\List.take (qBE2 s) (List.take (qBE8 s) (qBEl s)++ [Env.v7 v])=St.stack z)/\True))/\((Ins.n x==Z0a)=false->((Ins.n x==Zz9)=true->∃(Q:Bool->Prop),((decide (Env.v8 v<qBEf)=true->Q true)/\(decide (Env.v8 v<qBEf)=false->(decide (Env.v8 v>qBEg)=true->Q true)/\(decide (Env.v8 v>qBEg)=false->Q false)))/\(qBE3 Q s z)/\(Q false->(qBE4 s)/\(qBE2 s)*qBEq<=qBEh/\wr IntKind.i64 (qBEo s)=St.pc z/\wr IntKind.i64 (qBEi s)=St.fuel z/\St.status s=St.status z/\St.clause s=St.clause z/\(qBEm+(qBE2 s)<=List.length (List.take (qBE8 s) (qBEl s)++ [Env.v8 v])/\List.take (qBE2 s) (List.take (qBE8 s) (qBEl s)++ [Env.v8 v])=St.stack z)/\True))/\((Ins.n x==Zz9)=false->((Ins.n x==Zz8)=true->∃(Q:Bool->Prop),((decide (Env.v9 v<qBEf)=true->Q true)/\(decide (Env.v9 v<qBEf)=false->(decide (Env.v9 v>qBEg)=true->Q true)/\(decide (Env.v9 v>qBEg)=false->Q false)))/\(qBE3 Q s z)/\(Q false->(qBE4 s)/\(qBE2 s)*qBEq<=qBEh/\wr IntKind.i64 (qBEo s)=St.pc z/\wr IntKind.i64 (qBEi s)=St.fuel z/\St.status s=St.status z/\St.clause s=St.clause z/\(qBEm+(qBE2 s)<=List.length (List.take (qBE8 s) (qBEl s)++ [Env.v9 v])/\List.take (qBE2 s) (List.take (qBE8 s) (qBEl s)++ [Env.v9 v])=St.stack z)/\True))/\((Ins.n x==Zz8)=false->((Ins.n x==Zz7)=true->∃(Q:Bool->Prop),((decide (Env.v10 v<qBEf)=true->Q true)/\(decide (Env.v10 v<qBEf)=false->(decide (Env.v10 v>qBEg)=true->Q true)/\(decide (Env.v10 v>qBEg)=false->Q false)))/\(qBE3 Q s z)/\(Q false->
(qBE4 s)/\(qBE2 s)*qBEq<=qBEh/\wr IntKind.i64 (qBEo s)=St.pc z/\wr IntKind.i64 (qBEi s)=St.fuel z/\St.status s=St.status z/\St.clause s=St.clause z/\(qBEm+(qBE2 s)<=List.length (List.take (qBE8 s) (qBEl s)++ [Env.v10 v])/\List.take (qBE2 s) (List.take (qBE8 s) (qBEl s)++ [Env.v10 v])=St.stack z)/\True))/\((Ins.n x==Zz7)=false->((Ins.n x==qBEz)=true->∃(Q:Bool->Prop),((decide (Env.v11 v<qBEf)=true->Q true)/\(decide (Env.v11 v<qBEf)=false->(decide (Env.v11 v>qBEg)=true->Q true)/\(decide (Env.v11 v>qBEg)=false->Q false)))/\(qBE3 Q s z)/\(Q false->(qBE4 s)/\(qBE2 s)*qBEq<=qBEh/\wr IntKind.i64 (qBEo s)=St.pc z/\wr IntKind.i64 (qBEi s)=St.fuel z/\St.status s=St.status z/\St.clause s=St.clause z/\(qBEm+(qBE2 s)<=List.length (List.take (qBE8 s) (qBEl s)++ [Env.v11 v])/\List.take (qBE2 s) (List.take (qBE8 s) (qBEl s)++ [Env.v11 v])=St.stack z)/\True))/\((Ins.n x==qBEz)=false->((Ins.n x==qBEx)=true->∃(Q:Bool->Prop),((decide (Env.v12 v<qBEf)=true->Q true)/\(decide (Env.v12 v<qBEf)=false->(decide (Env.v12 v>qBEg)=true->Q true)/\(decide (Env.v12 v>qBEg)=false->Q false)))/\(qBE3 Q s z)/\(Q false->(qBE4 s)/\(qBE2 s)*qBEq<=qBEh/\wr IntKind.i64 (qBEo s)=St.pc z/\wr IntKind.i64 (qBEi s)=St.fuel z/\St.status s=St.status z/\St.clause s=St.clause z/\(qBEm+(qBE2 s)<=List.length (List.take (qBE8 s) (qBEl s)++ [Env.v12 v])/\List.take (qBE2 s) (List.take (qBE8 s) (qBEl s)++ [Env.v12 v])=St.stack z)/\True))/\((Ins.n x==qBEx)=false->((Ins.n x==qBEv)=true->∃(Q:Bool->Prop),((decide (Env.v13 v<qBEf)=true->Q true)/\(decide (Env.v13 v<qBEf)=false->(decide (Env.v13 v>qBEg)=true->Q true)/\(decide (Env.v13 v>qBEg)=false->Q false)))/\(qBE3 Q s z)/\(Q false->(qBE4 s)/\(qBE2 s)*qBEq<=qBEh/\wr IntKind.i64 (qBEo s)=St.pc z/\wr IntKind.i64 (qBEi s)=St.fuel z/\St.status s=St.status z/\St.clause s=St.clause z/\(qBEm+(qBE2 s)<=List.length (List.take (qBE8 s) (qBEl s)++ [Env.v13 v])/\List.take (qBE2 s) (List.take (qBE8 s) (qBEl s)++ [Env.v13 v])=St.stack z)/\True))/\((Ins.n x==qBEv)=false->((Ins.n x==qBEu)=true->∃(Q:Bool->Prop),((decide (Env.v14 v<qBEf)=true->Q true)/\(decide (Env.v14 v<qBEf)=false->(decide (Env.v14 v>qBEg)=true->Q true)/\(decide (Env.v14 v>qBEg)=false->Q false)))/\(qBE3 Q s z)/\(Q false->(qBE4 s)/\(qBE2 s)*qBEq<=qBEh/\wr IntKind.i64 (qBEo s)=St.pc z/\wr IntKind.i64 (qBEi s)=St.fuel z/\St.status s=St.status z/\St.clause s=St.clause z/\(qBEm+(qBE2 s)<=List.length (List.take (qBE8 s) (qBEl s)++ [Env.v14 v])/\List.take (qBE2 s) (List.take (qBE8 s) (qBEl s)++ [Env.v14 v])=St.stack z)/\True))/\((Ins.n x==qBEu)=false->((Ins.n x==qBEt)=true->∃(Q:Bool->Prop),((decide (Env.v15 v<qBEf)=true->Q true)/\(decide (Env.v15 v<qBEf)=false->(decide (Env.v15 v>qBEg)=true->Q true)/\(decide (Env.v15 v>qBEg)=false->Q false)))/\(qBE3 Q s z)/\(Q false->(qBE4 s)/\(qBE2 s)*qBEq<=qBEh/\wr IntKind.i64 (qBEo s)=St.pc z/\wr IntKind.i64 (qBEi s)=St.fuel z/\St.status s=St.status z/\St.clause s=St.clause z/\(qBEm+(qBE2 s)<=List.length (List.take (qBE8 s) (qBEl s)++ [Env.v15 v])/\List.take (qBE2 s) (List.take (qBE8 s) (qBEl s)++ [Env.v15 v])=St.stack z)/\True))/\((Ins.n x==qBEt)=false->True)))))))))))))))))))/\((Ins.op x==(2:Int))=false->((Ins.op x==(12:Int))=true->qBEk<=wr IntKind.i64 (qBE6 s)/\wr IntKind.i64 (qBE6 s)+qBEd<=(qBE1 s)/\∀(x_1:Int),(qBEl s)[Int.toNat (qBEp s)]? =some x_1->(decide (Ins.n x<=x_1)=true->qBEk<=wr IntKind.i64 (qBE6 s)/\wr IntKind.i64 (qBE6 s)+qBEd<=(qBE1 s)/\∀(x_2:Int),(qBEl s)[Int.toNat (qBEp s)]? =some x_2->(decide (x_2<=Ins.m x)=true->(qBEj s)/\(qBEe s)*qBEq<=qBEh/\wr IntKind.i64 (qBEo s)=St.pc z/\wr IntKind.i64 (qBEi s)=St.fuel z/\St.status
s=St.status z/\St.clause s=St.clause z/\(qBEm+(qBEe s)<=List.length (List.take (qBEn s) (qBEl s)++ [qBEd])/\List.take (qBEe s) (List.take (qBEn s) (qBEl s)++ [qBEd])=St.stack z)/\True)/\(decide (x_2<=Ins.m x)=false->(qBEj s)/\(qBEe s)*qBEq<=qBEh/\wr IntKind.i64 (qBEo s)=St.pc z/\wr IntKind.i64 (qBEi s)=St.fuel z/\St.status s=St.status z/\St.clause s=St.clause z/\(qBEy s z)/\True))/\(decide (Ins.n x<=x_1)=false->(qBEj s)/\(qBEe s)*qBEq<=qBEh/\wr IntKind.i64 (qBEo s)=St.pc z/\wr IntKind.i64 (qBEi s)=St.fuel z/\St.status s=St.status z/\St.clause s=St.clause z/\(qBEy s z)/\True))/\((Ins.op x==(12:Int))=false->((Ins.op x==(13:Int))=true->qBEk<=wr IntKind.i64 (qBE6 s)/\wr IntKind.i64 (qBE6 s)+qBEd<=(qBE1 s)/\∀(x_1:Int),(qBEl s)[Int.toNat (qBEp s)]? =some x_1->(qBEj s)/\((x_1==qBEk)=true->Ins.n x=St.pc z/\wr IntKind.i64 (qBEi s)=St.fuel z/\St.status s=St.status z/\St.clause s=St.clause z/\(List.take (qBEn s) (qBEl s)=St.stack z/\(false=true->true=true))/\True)/\((x_1==qBEk)=false->wr IntKind.i64 (qBEo s)=St.pc z/\wr IntKind.i64 (qBEi s)=St.fuel z/\St.status s=St.status z/\St.clause s=St.clause z/\(List.take (qBEn s) (qBEl s)=St.stack z/\(false=true->true=true))/\True))/\((Ins.op x==(13:Int))=false->((Ins.op x==(14:Int))=true->Ins.n x=St.pc z/\wr IntKind.i64 (qBEi s)=St.fuel z/\St.status s=St.status z/\St.clause s=St.clause z/\(qBEb s z)/\True)/\((Ins.op x==(14:Int))=false->((Ins.op x==(15:Int))=true->St.pc s=St.pc z/\wr IntKind.i64 (qBEi s)=St.fuel z/\qBEd=St.status z/\Ins.n x=St.clause z/\(qBEb s z)/\True)/\((Ins.op x==(15:Int))=false->((Ins.op x==(16:Int))=true->St.pc s=St.pc z/\wr IntKind.i64 (qBEi s)=St.fuel z/\(190:Int)=St.status z/\St.clause s=St.clause z/\(qBEb s z)/\True)/\((Ins.op x==(16:Int))=false->((Ins.op x==(↑(3:Nat):Int))=true->qBEk<=wr IntKind.i64 (qBEa s)/\wr IntKind.i64 (qBEa s)+qBEd<=(qBE1 s)/\∀(x:Int),(qBEl s)[Int.toNat (qBEr s)]? =some x->qBEk<=wr IntKind.i64 (qBE6 s)/\wr IntKind.i64 (qBE6 s)+qBEd<=(qBE1 s)/\∀(x_1:Int),(qBEl s)[Int.toNat (qBEp s)]? =some x_1->True/\((Prod.snd (addF x x_1) !=qBEk)=true->((Prod.snd (addF x x_1) !=qBEk)=true->St.pc s=St.pc z/\wr IntKind.i64 (qBEi s)=St.fuel z/\wr IntKind.i64 (Zdx+Prod.snd (addF x x_1))=St.status z/\St.clause s=St.clause z/\(qBEb s z)/\True)/\((Prod.snd (addF x x_1) !=qBEk)=false->St.pc s=St.pc z/\wr IntKind.i64 (qBEi s)=St.fuel z/\St.status s=St.status z/\St.clause s=St.clause z/\(qBEb s z)/\True))/\((Prod.snd (addF x x_1) !=qBEk)=false->(qBE7 s)/\(qBE5 s)*qBEq<=qBEh/\wr IntKind.i64 (qBEo s)=St.pc z/\wr IntKind.i64 (qBEi s)=St.fuel z/\St.status s=St.status z/\St.clause s=St.clause z/\(qBEm+(qBE5 s)<=List.length (List.take (qBEc s) (qBEl s)++ [Prod.fst (addF x x_1)])/\List.take (qBE5 s) (List.take (qBEc s) (qBEl s)++ [Prod.fst (addF x x_1)])=St.stack z)/\True))/\((Ins.op x==(↑(3:Nat):Int))=false->((Ins.op x==(↑(4:Nat):Int))=true->qBEk<=wr IntKind.i64 (qBEa s)/\wr IntKind.i64 (qBEa s)+qBEd<=(qBE1 s)/\∀(x:Int),(qBEl s)[Int.toNat (qBEr s)]? =some x->qBEk<=wr IntKind.i64 (qBE6 s)/\wr IntKind.i64 (qBE6 s)+qBEd<=(qBE1 s)/\∀(x_1:Int),(qBEl s)[Int.toNat (qBEp s)]? =some x_1->True/\((Prod.snd (subF x x_1) !=qBEk)=true->((Prod.snd (subF x x_1) !=qBEk)=true->St.pc s=St.pc z/\wr IntKind.i64 (qBEi s)=St.fuel z/\wr IntKind.i64 (Zdx+Prod.snd (subF x x_1))=St.status z/\St.clause s=St.clause z/\(qBEb s z)/\True)/\((Prod.snd (subF x x_1) !=qBEk)=false->St.pc s=St.pc z/\wr IntKind.i64 (qBEi s)=St.fuel z/\St.status s=St.status z/\St.clause s=St.clause z/\(qBEb s z)/\True))/\((Prod.snd (subF x x_1) !=qBEk)=false->(qBE7 s)/\(qBE5 s)*qBEq<=qBEh/\wr
IntKind.i64 (qBEo s)=St.pc z/\wr IntKind.i64 (qBEi s)=St.fuel z/\St.status s=St.status z/\St.clause s=St.clause z/\(qBEm+(qBE5 s)<=List.length (List.take (qBEc s) (qBEl s)++ [Prod.fst (subF x x_1)])/\List.take (qBE5 s) (List.take (qBEc s) (qBEl s)++ [Prod.fst (subF x x_1)])=St.stack z)/\True))/\((Ins.op x==(↑(4:Nat):Int))=false->((Ins.op x==(↑(5:Nat):Int))=true->qBEk<=wr IntKind.i64 (qBEa s)/\wr IntKind.i64 (qBEa s)+qBEd<=(qBE1 s)/\∀(x:Int),(qBEl s)[Int.toNat (qBEr s)]? =some x->qBEk<=wr IntKind.i64 (qBE6 s)/\wr IntKind.i64 (qBE6 s)+qBEd<=(qBE1 s)/\∀(x_1:Int),(qBEl s)[Int.toNat (qBEp s)]? =some x_1->True/\((Prod.snd (mulF x x_1) !=qBEk)=true->((Prod.snd (mulF x x_1) !=qBEk)=true->St.pc s=St.pc z/\wr IntKind.i64 (qBEi s)=St.fuel z/\wr IntKind.i64 (Zdx+Prod.snd (mulF x x_1))=St.status z/\St.clause s=St.clause z/\(qBEb s z)/\True)/\((Prod.snd (mulF x x_1) !=qBEk)=false->St.pc s=St.pc z/\wr IntKind.i64 (qBEi s)=St.fuel z/\St.status s=St.status z/\St.clause s=St.clause z/\(qBEb s z)/\True))/\((Prod.snd (mulF x x_1) !=qBEk)=false->(qBE7 s)/\(qBE5 s)*qBEq<=qBEh/\wr IntKind.i64 (qBEo s)=St.pc z/\wr IntKind.i64 (qBEi s)=St.fuel z/\St.status s=St.status z/\St.clause s=St.clause z/\(qBEm+(qBE5 s)<=List.length (List.take (qBEc s) (qBEl s)++ [Prod.fst (mulF x x_1)])/\List.take (qBE5 s) (List.take (qBEc s) (qBEl s)++ [Prod.fst (mulF x x_1)])=St.stack z)/\True))/\((Ins.op x==(↑(5:Nat):Int))=false->((Ins.op x==(↑(6:Nat):Int))=true->qBEk<=wr IntKind.i64 (qBEa s)/\wr IntKind.i64 (qBEa s)+qBEd<=(qBE1 s)/\∀(x:Int),(qBEl s)[Int.toNat (qBEr s)]? =some x->qBEk<=wr IntKind.i64 (qBE6 s)/\wr IntKind.i64 (qBE6 s)+qBEd<=(qBE1 s)/\∀(x_1:Int),(qBEl s)[Int.toNat (qBEp s)]? =some x_1->(qBE7 s)/\(qBE5 s)*qBEq<=qBEh/\wr IntKind.i64 (qBEo s)=St.pc z/\wr IntKind.i64 (qBEi s)=St.fuel z/\St.status s=St.status z/\St.clause s=St.clause z/\(qBEm+(qBE5 s)<=List.length (List.take (qBEc s) (qBEl s)++ [mm2 false x x_1])/\List.take (qBE5 s) (List.take (qBEc s) (qBEl s)++ [mm2 false x x_1])=St.stack z)/\True)/\((Ins.op x==(↑(6:Nat):Int))=false->((Ins.op x==(↑(7:Nat):Int))=true->qBEk<=wr IntKind.i64 (qBEa s)/\wr IntKind.i64 (qBEa s)+qBEd<=(qBE1 s)/\∀(x:Int),(qBEl s)[Int.toNat (qBEr s)]? =some x->qBEk<=wr IntKind.i64 (qBE6 s)/\wr IntKind.i64 (qBE6 s)+qBEd<=(qBE1 s)/\∀(x_1:Int),(qBEl s)[Int.toNat (qBEp s)]? =some x_1->(qBE7 s)/\(qBE5 s)*qBEq<=qBEh/\wr IntKind.i64 (qBEo s)=St.pc z/\wr IntKind.i64 (qBEi s)=St.fuel z/\St.status s=St.status z/\St.clause s=St.clause z/\(qBEm+(qBE5 s)<=List.length (List.take (qBEc s) (qBEl s)++ [mm2 true x x_1])/\List.take (qBE5 s) (List.take (qBEc s) (qBEl s)++ [mm2 true x x_1])=St.stack z)/\True)/\((Ins.op x==(↑(7:Nat):Int))=false->((Ins.op x==(↑qBEq:Int))=true->qBEk<=wr IntKind.i64 (qBEa s)/\wr IntKind.i64 (qBEa s)+qBEd<=(qBE1 s)/\∀(x:Int),(qBEl s)[Int.toNat (qBEr s)]? =some x->qBEk<=wr IntKind.i64 (qBE6 s)/\wr IntKind.i64 (qBE6 s)+qBEd<=(qBE1 s)/\∀(x_1:Int),(qBEl s)[Int.toNat (qBEp s)]? =some x_1->True/\((Zsg x x_1)=true->((Zsg x x_1)=true->St.pc s=St.pc z/\wr IntKind.i64 (qBEi s)=St.fuel z/\wr IntKind.i64 (Zdx+Prod.snd (divF x x_1 (8:Int)))=St.status z/\St.clause s=St.clause z/\(qBEb s z)/\True)/\((Zsg x x_1)=false->St.pc s=St.pc z/\wr IntKind.i64 (qBEi s)=St.fuel z/\St.status s=St.status z/\St.clause s=St.clause z/\(qBEb s z)/\True))/\((Zsg x x_1)=false->(qBE7 s)/\(qBE5 s)*qBEq<=qBEh/\wr IntKind.i64 (qBEo s)=St.pc z/\wr IntKind.i64 (qBEi s)=St.fuel z/\St.status s=St.status z/\St.clause s=St.clause z/\(qBEm+(qBE5 s)<=List.length (List.take (qBEc s) (qBEl s)++ [Prod.fst (divF x x_1 (8:Int))])/\List.take (qBE5 s) (List.take (qBEc s) (qBEl s)++ [Prod.fst
(divF x x_1 (8:Int))])=St.stack z)/\True))/\((Ins.op x==(↑qBEq:Int))=false->((Ins.op x==(↑(9:Nat):Int))=true->qBEk<=wr IntKind.i64 (qBEa s)/\wr IntKind.i64 (qBEa s)+qBEd<=(qBE1 s)/\∀(x:Int),(qBEl s)[Int.toNat (qBEr s)]? =some x->qBEk<=wr IntKind.i64 (qBE6 s)/\wr IntKind.i64 (qBE6 s)+qBEd<=(qBE1 s)/\∀(x_1:Int),(qBEl s)[Int.toNat (qBEp s)]? =some x_1->True/\((Zsh x x_1)=true->((Zsh x x_1)=true->St.pc s=St.pc z/\wr IntKind.i64 (qBEi s)=St.fuel z/\wr IntKind.i64 (Zdx+Prod.snd (divF x x_1 (9:Int)))=St.status z/\St.clause s=St.clause z/\(qBEb s z)/\True)/\((Zsh x x_1)=false->St.pc s=St.pc z/\wr IntKind.i64 (qBEi s)=St.fuel z/\St.status s=St.status z/\St.clause s=St.clause z/\(qBEb s z)/\True))/\((Zsh x x_1)=false->(qBE7 s)/\(qBE5 s)*qBEq<=qBEh/\wr IntKind.i64 (qBEo s)=St.pc z/\wr IntKind.i64 (qBEi s)=St.fuel z/\St.status s=St.status z/\St.clause s=St.clause z/\(qBEm+(qBE5 s)<=List.length (List.take (qBEc s) (qBEl s)++ [Prod.fst (divF x x_1 (9:Int))])/\List.take (qBE5 s) (List.take (qBEc s) (qBEl s)++ [Prod.fst (divF x x_1 (9:Int))])=St.stack z)/\True))/\((Ins.op x==(↑(9:Nat):Int))=false->((Ins.op x==(↑(10:Nat):Int))=true->qBEk<=wr IntKind.i64 (qBEa s)/\wr IntKind.i64 (qBEa s)+qBEd<=(qBE1 s)/\∀(x:Int),(qBEl s)[Int.toNat (qBEr s)]? =some x->qBEk<=wr IntKind.i64 (qBE6 s)/\wr IntKind.i64 (qBE6 s)+qBEd<=(qBE1 s)/\∀(x_1:Int),(qBEl s)[Int.toNat (qBEp s)]? =some x_1->True/\((Zsi x x_1)=true->((Zsi x x_1)=true->St.pc s=St.pc z/\wr IntKind.i64 (qBEi s)=St.fuel z/\wr IntKind.i64 (Zdx+Prod.snd (divF x x_1 Zdx))=St.status z/\St.clause s=St.clause z/\(qBEb s z)/\True)/\((Zsi x x_1)=false->St.pc s=St.pc z/\wr IntKind.i64 (qBEi s)=St.fuel z/\St.status s=St.status z/\St.clause s=St.clause z/\(qBEb s z)/\True))/\((Zsi x x_1)=false->(qBE7 s)/\(qBE5 s)*qBEq<=qBEh/\wr IntKind.i64 (qBEo s)=St.pc z/\wr IntKind.i64 (qBEi s)=St.fuel z/\St.status s=St.status z/\St.clause s=St.clause z/\(qBEm+(qBE5 s)<=List.length (List.take (qBEc s) (qBEl s)++ [Prod.fst (divF x x_1 Zdx)])/\List.take (qBE5 s) (List.take (qBEc s) (qBEl s)++ [Prod.fst (divF x x_1 Zdx)])=St.stack z)/\True))/\((Ins.op x==(↑(10:Nat):Int))=false->((Ins.op x==(↑(11:Nat):Int))=true->qBEk<=wr IntKind.i64 (qBEa s)/\wr IntKind.i64 (qBEa s)+qBEd<=(qBE1 s)/\∀(x:Int),(qBEl s)[Int.toNat (qBEr s)]? =some x->qBEk<=wr IntKind.i64 (qBE6 s)/\wr IntKind.i64 (qBE6 s)+qBEd<=(qBE1 s)/\∀(x_1:Int),(qBEl s)[Int.toNat (qBEp s)]? =some x_1->(decide (x<x_1)=true->(qBE7 s)/\(qBE5 s)*qBEq<=qBEh/\wr IntKind.i64 (qBEo s)=St.pc z/\wr IntKind.i64 (qBEi s)=St.fuel z/\St.status s=St.status z/\St.clause s=St.clause z/\(qBEm+(qBE5 s)<=List.length (List.take (qBEc s) (qBEl s)++ [qBEd])/\List.take (qBE5 s) (List.take (qBEc s) (qBEl s)++ [qBEd])=St.stack z)/\True)/\(decide (x<x_1)=false->(qBE7 s)/\(qBE5 s)*qBEq<=qBEh/\wr IntKind.i64 (qBEo s)=St.pc z/\wr IntKind.i64 (qBEi s)=St.fuel z/\St.status s=St.status z/\St.clause s=St.clause z/\(qBEm+(qBE5 s)<=List.length (List.take (qBEc s) (qBEl s)++ [qBEk])/\List.take (qBE5 s) (List.take (qBEc s) (qBEl s)++ [qBEk])=St.stack z)/\True))/\((Ins.op x==(↑(11:Nat):Int))=false->qBEk<=wr IntKind.i64 (qBEa s)/\wr IntKind.i64 (qBEa s)+qBEd<=(qBE1 s)/\∀(x:Int),(qBEl s)[Int.toNat (qBEr s)]? =some x->qBEk<=wr IntKind.i64 (qBE6 s)/\wr IntKind.i64 (qBE6 s)+qBEd<=(qBE1 s)/\∀(x:Int),(qBEl s)[Int.toNat (qBEp s)]? =some x->False))))))))))))))))))):=by kernel_rfl
end
section
open Go
structure CanAdv (c:List Ins) (s:St) (below:Int):Prop where
 short:c.length<=4096
 pc0:0<=s.pc
 pc1:s.pc<c.length
 formed:∀x,c[s.pc.toNat]? =some x->formedF x=true
 fuel0:0<=s.fuel
 fuel1:s.fuel<=1000000
 below0:0<=below
 below1:below<=64
 stack:s.stack.length<=64
def advR (s1:St) (r:St×Int):St:=if r.2=0 then r.1 else {s1 with status:=10+r.2}
theorem Y6 (s1 a:St):advR s1 (a,0)=a:=by simp [advR]
theorem Xc (s1 a:St) {e:Int} (h:¬e=0):advR s1 (a,e)={s1 with status:=10+e}:=by simp [advR,h]
theorem Z1j {c:List Ins} {v:Env} {s:St} {below:Int} {x:Ins} (hx:c[s.pc.toNat]? =some x) (h:¬s.fuel=0):advF c v s below=advR {s with fuel:=s.fuel-1} (Zj x v {s with fuel:=s.fuel-1} below):=by
 unfold advF
 rw [if_neg h,hx]
 rfl
theorem Zuk {x:Ins} (hf:formedF x=true):1<=x.op/\x.op<=16:=by
 unfold formedF at hf
 repeat' split at hf
 all_goals simp only [decide_eq_true_eq] at hf
 all_goals omega
theorem Yh {l:List Int} {i:Nat} {y:Int} (h:l[i]? =some y) {j:Nat} (hj:i=l.length-1-j):topF l j=y:=by
 unfold topF
 rw [<-hj,List.getD_eq_getElem?_getD,h];rfl
theorem Zjd (c:List Ins) (v:Env) (s:St) (below:Int) (h:CanAdv c s below):PureC E 32 [.psl .ins c false,envV v,stV s,.int false .i64 below] (stV (advF c v s below)):=by
 obtain ⟨hc,h0,h1,hf,f0,f1,b0,b1,hs⟩:=h
 refine Za E_ok (Zg E_ok Z2w 400) ?_
 rw [Zin]; delta qBEk qBEb qBEd qBE1 qBEi qBEs qBE4 qBE2 qBEq qBEh qBEo qBEm qBE8 qBEl qBEw qBEf qBEg qBE3 qBE9 Z0c Z0b Z0a Zz9 Zz8 Zz7 qBEz qBEx qBEv qBEu qBEt qBE6 qBEp qBEj qBEe qBEn qBEy qBEa qBEr Zdx qBE7 qBE5 qBEc Zsg Zsh Zsi
 obtain ⟨x,hx⟩:∃x,c[s.pc.toNat]? =some x:=⟨c[s.pc.toNat]'(by omega),by simp⟩
 have hfx:=hf x hx
 have hop:=Zuk hfx
 have hn9:∀k:Nat,((k:Nat):Int)=k:=fun _=>rfl
 have ef:wr .i64 (s.fuel-1)=s.fuel-1:=wr64 (by omega) (by omega)
 have ep:wr .i64 (s.pc+1)=s.pc+1:=wr64 (by omega) (by omega)
 have eb:wr .i64 (below+(s.stack.length:Int))=below+s.stack.length:=wr64 (by omega) (by omega)
 have e0:wr .i64 ((s.stack.length:Int)-0)=s.stack.length:=by rw [wr64 (by omega) (by omega)];omega
 have e1:wr .i64 ((s.stack.length:Int)-1)=s.stack.length-1:=wr64 (by omega) (by omega)
 have e10:wr .i64 ((s.stack.length:Int)-1-0)=s.stack.length-1:=by rw [wr64 (by omega) (by omega)];omega
 have e11:wr .i64 ((s.stack.length:Int)-1-1)=s.stack.length-2:=by rw [wr64 (by omega) (by omega)];omega
 have e2:wr .i64 ((s.stack.length:Int)-2)=s.stack.length-2:=wr64 (by omega) (by omega)
 simp only [hx,Option.some.injEq,forall_eq',ef,ep,eb,e0,e1,e10,e11,e2,Int.toNat_natCast,List.take_length,Z9,Zy,Xz,X0,X1,beq_iff_eq,bne_iff_ne,beq_eq_false_iff_ne,bne_eq_false_iff_eq,decide_eq_true_eq,decide_eq_false_iff_not,Bool.or_eq_true,Bool.or_eq_false_iff,Bool.not_eq_true',Bool.not_eq_false',Bool.and_eq_true,Bool.and_true,Bool.true_and,Bool.and_eq_false_iff,beq_self_eq_true,Z4,Yf,ne_eq,and_true,true_and,Bool.true_eq_false,Bool.false_eq_true,false_or,or_false,true_implies,Int.ofNat_eq_natCast,not_true_eq_false,not_false_eq_true,Decidable.not_not,ge_iff_le,gt_iff_lt]
 refine ⟨fun h=>by unfold advF;rw [if_pos h];simp,fun h=>⟨by omega,by omega,fun hn=> ?_,fun hn=> ?_⟩⟩
 all_goals rw [Z1j hx h]
 · have hE:Zj x v {s with fuel:=s.fuel-1} below=({s with fuel:=s.fuel-1},200):=by unfold Zj;rw [if_pos hn]
   rw [hE];simp [advR]
 clear hx hf ef ep eb e0 e1 e10 e11 e2
 obtain ⟨s1,hs1⟩:∃s1:St,s1={s with fuel:=s.fuel-1}:=⟨_,rfl⟩
 have q1:s1.pc=s.pc:=by rw [hs1]
 have q2:s1.fuel=s.fuel-1:=by rw [hs1]
 have q3:s1.status=s.status:=by rw [hs1]
 have q4:s1.clause=s.clause:=by rw [hs1]
 have q5:s1.stack=s.stack:=by rw [hs1]
 rw [<-hs1]
 have hn:¬((s1.stack.length:Int)<Wj x.op):=by rw [q5];exact hn
 clear hs1
 obtain ⟨op,n,m⟩:=x
 dsimp only at*
 have e1n:Int.toNat ((s.stack.length:Int)-1)=s.stack.length-1:=by omega
 have e2n:Int.toNat ((s.stack.length:Int)-2)=s.stack.length-2:=by omega
 refine ⟨fun ho=> ?_,fun o1=>⟨fun ho=> ?_,fun o2=>⟨fun ho=> ?_,fun o12=>⟨fun ho=> ?_,fun o13=>⟨fun ho=> ?_,fun o14=>⟨fun ho=> ?_,fun o15=>⟨fun ho=> ?_,fun o16=> ?_⟩⟩⟩⟩⟩⟩⟩
 · subst ho
   refine ⟨fun h64=> ?_,fun h64=> ?_⟩
   · have hE:Zj ⟨1,n,m⟩ v s1 below=(s1,200):=by unfold Zj;rw [if_neg hn];simp [q5,h64]
     rw [hE,Xc _ _ (by omega)];simp [q1,q2,q3,q4,q5]
   · have hE:Zj ⟨1,n,m⟩ v s1 below=(s1.pops 0 [n],0):=by unfold Zj;rw [if_neg hn];simp [q5,h64]
     rw [hE,Y6]
     refine ⟨⟨by omega,by omega⟩,by omega,by simp [St.pops,q1],by simp [St.pops,q2],by simp [St.pops,q3],by simp [St.pops,q4],?_⟩
     simp [St.pops,q5]
     all_goals first|omega|exact List.take_of_length_le (by simp only [List.length_append,List.length_take,List.length_cons,List.length_nil];omega)
 · subst ho
   refine ⟨fun h64=> ?_,fun h64=> ?_⟩
   · have hE:Zj ⟨2,n,m⟩ v s1 below=(s1,200):=by unfold Zj;rw [if_neg hn];simp [q5,h64]
     rw [hE,Xc _ _ (by omega)];simp [q1,q2,q3,q4,q5]
   have hn15:0<=n/\n<=15:=by simp [formedF] at hfx;omega
   have hbit:Zo BinOp.and IntKind.i64 v.has (wr IntKind.i64 (1*2^min n.toNat IntKind.i64.bits))=0↔(v.has/2^n.toNat)%2=0:=by
    have e:∀k:Nat,k<=15->wr IntKind.i64 (1*2^min k IntKind.i64.bits)=((2^k:Nat):Int):=by decide
    rw [e _ (by omega)]
    have e2:=Zz6 v.has n.toNat (by omega)
    have e3:(Zo BinOp.and IntKind.i64 v.has ((2^n.toNat:Nat):Int)==0)=decide ((v.has/((2^n.toNat:Nat):Int))%2=0):=e2
    rw [<-beq_iff_eq (a:=Zo BinOp.and IntKind.i64 v.has ((2^n.toNat:Nat):Int)),e3,decide_eq_true_eq]
    simp
   refine ⟨by omega,fun hb=> ?_,fun hb=>⟨by omega,by omega,?_⟩⟩
   · have hE:Zj ⟨2,n,m⟩ v s1 below=(s1,181):=by unfold Zj;rw [if_neg hn];simp [q5,h64,hbit.1 hb]
     rw [hE,Xc _ _ (by omega)];simp [q1,q2,q3,q4,q5]
   have hb':¬(v.has/2^n.toNat)%2=0:=fun h=>hb (hbit.2 h)
   have key:∀w:Int,v.v.getD n.toNat 0=w->∃Q:Bool->Prop,((w< -9007199254740992->Q true)/\(¬w< -9007199254740992->(9007199254740992<w->Q true)/\(¬9007199254740992<w->Q false)))/\
    (Q true->s.pc=(advR s1 (Zj ⟨2,n,m⟩ v s1 below)).pc/\s.fuel-1=(advR s1 (Zj ⟨2,n,m⟩ v s1 below)).fuel/\13=(advR s1 (Zj ⟨2,n,m⟩ v s1 below)).status/\s.clause=(advR s1 (Zj ⟨2,n,m⟩ v s1 below)).clause/\s.stack=(advR s1 (Zj ⟨2,n,m⟩ v s1 below)).stack/\(False->False))/\
    (Q false->(0<=(s.stack.length:Int)/\(s.stack.length:Int)<=s.stack.length)/\(s.stack.length+1)*8<=140737488355328/\s.pc+1=(advR s1 (Zj ⟨2,n,m⟩ v s1 below)).pc/\s.fuel-1=(advR s1 (Zj ⟨2,n,m⟩ v s1 below)).fuel/\s.status=(advR s1 (Zj ⟨2,n,m⟩ v s1 below)).status/\s.clause=(advR s1 (Zj ⟨2,n,m⟩ v s1 below)).clause/\
     0+(s.stack.length+1)<=(s.stack++ [w]).length/\List.take (s.stack.length+1) (s.stack++ [w])=(advR s1 (Zj ⟨2,n,m⟩ v s1 below)).stack):=by
    intro w hw
    refine ⟨fun b=>(b=true↔(w< -9007199254740992\/9007199254740992<w)),⟨fun h=>by simp [h],fun h=>⟨fun h'=>by simp [h'],fun h'=>by simp;omega⟩⟩,fun hQ=> ?_,fun hQ=> ?_⟩
    · have hQ:=hQ.1 rfl
      have hE:Zj ⟨2,n,m⟩ v s1 below=(s1,3):=by unfold Zj;rw [if_neg hn];dsimp only;rw [if_neg (by omega),if_pos rfl,if_neg (by rw [q5];exact h64),if_neg hb',hw,if_pos hQ]
      rw [hE,Xc _ _ (by omega)];simp [q1,q2,q3,q4,q5]
    · have hQ:¬(w< -9007199254740992\/9007199254740992<w):=fun h=>absurd (hQ.2 h) (by simp)
      have hE:Zj ⟨2,n,m⟩ v s1 below=(s1.pops 0 [w],0):=by unfold Zj;rw [if_neg hn];dsimp only;rw [if_neg (by omega),if_pos rfl,if_neg (by rw [q5];exact h64),if_neg hb',hw,if_neg hQ]
      rw [hE,Y6]
      refine ⟨⟨by omega,by omega⟩,by omega,by simp [St.pops,q1],by simp [St.pops,q2],by simp [St.pops,q3],by simp [St.pops,q4],by simp,?_⟩
      simp [St.pops,q5]
      all_goals first|omega|exact List.take_of_length_le (by simp only [List.length_append,List.length_take,List.length_cons,List.length_nil];omega)
   exact ⟨fun hk=>key _ (by rw [show n=0 by omega];rfl),fun _=>⟨fun hk=>key _ (by rw [show n=1 by omega];rfl),fun _=>⟨fun hk=>key _ (by rw [show n=2 by omega];rfl),fun _=>⟨fun hk=>key _ (by rw [show n=3 by omega];rfl),fun _=>⟨fun hk=>key _ (by rw [show n=4 by omega];rfl),fun _=>⟨fun hk=>key _ (by rw [show n=5 by omega];rfl),fun _=>⟨fun hk=>key _ (by rw [show n=6 by omega];rfl),fun _=>⟨fun hk=>key _ (by rw [show n=7 by omega];rfl),fun _=>⟨fun hk=>key _ (by rw [show n=8 by omega];rfl),fun _=>⟨fun hk=>key _ (by rw [show n=9 by omega];rfl),fun _=>⟨fun hk=>key _ (by rw [show n=10 by omega];rfl),fun _=>⟨fun hk=>key _ (by rw [show n=11 by omega];rfl),fun _=>⟨fun hk=>key _ (by rw [show n=12 by omega];rfl),fun _=>⟨fun hk=>key _ (by rw [show n=13 by omega];rfl),fun _=>⟨fun hk=>key _ (by rw [show n=14 by omega];rfl),fun _=>⟨fun hk=>key _ (by rw [show n=15 by omega];rfl),fun _=>trivial⟩⟩⟩⟩⟩⟩⟩⟩⟩⟩⟩⟩⟩⟩⟩⟩
 · subst ho
   have hl:1<=(s.stack.length:Int):=by rw [q5] at hn;simp [Wj] at hn;omega
   refine ⟨by omega,by omega,fun a ha=> ?_⟩
   have t0:topF s1.stack 0=a:=Yh (by rw [q5];exact ha) (by rw [q5];omega)
   have hE:Zj ⟨12,n,m⟩ v s1 below=(s1.pops 1 [if n<=a/\a<=m then 1 else 0],0):=by unfold Zj;rw [if_neg hn];simp [t0]
   rw [hE,Y6]
   refine ⟨fun hna=>⟨by omega,by omega,fun b hb=> ?_⟩,fun hna=> ?_⟩
   · rw [ha] at hb;cases hb
     refine ⟨fun hm=> ?_,fun hm=> ?_⟩
     all_goals
      refine ⟨⟨by omega,by omega⟩,by simp only [List.length_take];omega,by simp [St.pops,q1],by simp [St.pops,q2],by simp [St.pops,q3],by simp [St.pops,q4],?_⟩
      rw [e1n]
      simp [St.pops,q5,hna,hm]
      all_goals first|omega|exact List.take_of_length_le (by simp only [List.length_append,List.length_take,List.length_cons,List.length_nil];omega)
   · refine ⟨⟨by omega,by omega⟩,by simp only [List.length_take];omega,by simp [St.pops,q1],by simp [St.pops,q2],by simp [St.pops,q3],by simp [St.pops,q4],?_⟩
     rw [e1n]
     simp [St.pops,q5,hna]
     all_goals first|omega|exact List.take_of_length_le (by simp only [List.length_append,List.length_take,List.length_cons,List.length_nil];omega)
 · subst ho
   have hl:1<=(s.stack.length:Int):=by rw [q5] at hn;simp [Wj] at hn;omega
   refine ⟨by omega,by omega,fun a ha=>⟨⟨by omega,by omega⟩,?_⟩⟩
   have t0:topF s1.stack 0=a:=Yh (by rw [q5];exact ha) (by rw [q5];omega)
   have hE:Zj ⟨13,n,m⟩ v s1 below=({s1.pops 1 [] with pc:=if a=0 then n else s1.pc+1},0):=by unfold Zj;rw [if_neg hn];simp [t0]
   rw [hE,Y6,e1n]
   refine ⟨fun hz=> ?_,fun hz=> ?_⟩
   all_goals simp [St.pops,q1,q2,q3,q4,q5,hz]
 · subst ho
   have hE:Zj ⟨14,n,m⟩ v s1 below=({s1 with pc:=n},0):=by unfold Zj;rw [if_neg hn];simp
   rw [hE,Y6]
   simp [q1,q2,q3,q4,q5]
 · subst ho
   have hE:Zj ⟨15,n,m⟩ v s1 below=({s1 with status:=1,clause:=n},0):=by unfold Zj;rw [if_neg hn];simp
   rw [hE,Y6]
   simp [q1,q2,q3,q4,q5]
 · subst ho
   have hE:Zj ⟨16,n,m⟩ v s1 below=(s1,180):=by unfold Zj;rw [if_neg hn];simp
   rw [hE,Xc _ _ (by omega)]
   simp [q1,q2,q3,q4,q5]
 have hl:2<=(s.stack.length:Int):=by
  rw [q5] at hn
  have e:Wj op=2:=by unfold Wj;rw [if_neg (by omega),if_pos (by omega)]
  rw [e] at hn;omega
 refine ⟨fun ho=> ?_,fun o3=>⟨fun ho=> ?_,fun o4=>⟨fun ho=> ?_,fun o5=>⟨fun ho=> ?_,fun o6=>⟨fun ho=> ?_,fun o7=>⟨fun ho=> ?_,fun o8=>⟨fun ho=> ?_,fun o9=>⟨fun ho=> ?_,fun o10=>⟨fun ho=> ?_,fun o11=>by omega⟩⟩⟩⟩⟩⟩⟩⟩⟩
 · obtain rfl:op=3:=by omega
   clear ho
   refine ⟨by omega,by omega,fun a ha=>⟨by omega,by omega,fun b hb=> ?_⟩⟩
   have t1:topF s1.stack 1=a:=Yh (by rw [q5];exact ha) (by rw [q5];omega)
   have t0:topF s1.stack 0=b:=Yh (by rw [q5];exact hb) (by rw [q5];omega)
   have hE:Zj ⟨3,n,m⟩ v s1 below=if (addF a b).2≠0 then (s1,(addF a b).2) else (s1.pops 2 [(addF a b).1],0):=by
    unfold Zj;rw [if_neg hn];simp [t0,t1,binF]
   have hw:wr .i64 (10+(addF a b).2)=10+(addF a b).2:=by
    have:=Znd a b
    rw [wr64 (by omega) (by omega)]
   refine ⟨fun he=>⟨fun _=> ?_,fun h'=>absurd h' he⟩,fun he=> ?_⟩
   · rw [hE,if_pos he,Xc _ _ he,hw];simp [q1,q2,q3,q4,q5]
   · rw [hE,if_neg (by simp [he]),Y6]
     refine ⟨⟨by omega,by omega⟩,by simp only [List.length_take];omega,by simp [St.pops,q1],by simp [St.pops,q2],by simp [St.pops,q3],by simp [St.pops,q4],?_⟩
     rw [e2n]
     simp [St.pops,q5]
     all_goals first|omega|exact List.take_of_length_le (by simp only [List.length_append,List.length_take,List.length_cons,List.length_nil];omega)
 · obtain rfl:op=4:=by omega
   clear ho
   refine ⟨by omega,by omega,fun a ha=>⟨by omega,by omega,fun b hb=> ?_⟩⟩
   have t1:topF s1.stack 1=a:=Yh (by rw [q5];exact ha) (by rw [q5];omega)
   have t0:topF s1.stack 0=b:=Yh (by rw [q5];exact hb) (by rw [q5];omega)
   have hE:Zj ⟨4,n,m⟩ v s1 below=if (subF a b).2≠0 then (s1,(subF a b).2) else (s1.pops 2 [(subF a b).1],0):=by
    unfold Zj;rw [if_neg hn];simp [t0,t1,binF]
   have hw:wr .i64 (10+(subF a b).2)=10+(subF a b).2:=by
    have:=Zne a b
    rw [wr64 (by omega) (by omega)]
   refine ⟨fun he=>⟨fun _=> ?_,fun h'=>absurd h' he⟩,fun he=> ?_⟩
   · rw [hE,if_pos he,Xc _ _ he,hw];simp [q1,q2,q3,q4,q5]
   · rw [hE,if_neg (by simp [he]),Y6]
     refine ⟨⟨by omega,by omega⟩,by simp only [List.length_take];omega,by simp [St.pops,q1],by simp [St.pops,q2],by simp [St.pops,q3],by simp [St.pops,q4],?_⟩
     rw [e2n]
     simp [St.pops,q5]
     all_goals first|omega|exact List.take_of_length_le (by simp only [List.length_append,List.length_take,List.length_cons,List.length_nil];omega)
 · obtain rfl:op=5:=by omega
   clear ho
   refine ⟨by omega,by omega,fun a ha=>⟨by omega,by omega,fun b hb=> ?_⟩⟩
   have t1:topF s1.stack 1=a:=Yh (by rw [q5];exact ha) (by rw [q5];omega)
   have t0:topF s1.stack 0=b:=Yh (by rw [q5];exact hb) (by rw [q5];omega)
   have hE:Zj ⟨5,n,m⟩ v s1 below=if (mulF a b).2≠0 then (s1,(mulF a b).2) else (s1.pops 2 [(mulF a b).1],0):=by
    unfold Zj;rw [if_neg hn];simp [t0,t1,binF]
   have hw:wr .i64 (10+(mulF a b).2)=10+(mulF a b).2:=by
    have:=Znf a b
    rw [wr64 (by omega) (by omega)]
   refine ⟨fun he=>⟨fun _=> ?_,fun h'=>absurd h' he⟩,fun he=> ?_⟩
   · rw [hE,if_pos he,Xc _ _ he,hw];simp [q1,q2,q3,q4,q5]
   · rw [hE,if_neg (by simp [he]),Y6]
     refine ⟨⟨by omega,by omega⟩,by simp only [List.length_take];omega,by simp [St.pops,q1],by simp [St.pops,q2],by simp [St.pops,q3],by simp [St.pops,q4],?_⟩
     rw [e2n]
     simp [St.pops,q5]
     all_goals first|omega|exact List.take_of_length_le (by simp only [List.length_append,List.length_take,List.length_cons,List.length_nil];omega)
 · obtain rfl:op=6:=by omega
   clear ho
   refine ⟨by omega,by omega,fun a ha=>⟨by omega,by omega,fun b hb=> ?_⟩⟩
   have t1:topF s1.stack 1=a:=Yh (by rw [q5];exact ha) (by rw [q5];omega)
   have t0:topF s1.stack 0=b:=Yh (by rw [q5];exact hb) (by rw [q5];omega)
   have hE:Zj ⟨6,n,m⟩ v s1 below=(s1.pops 2 [min a b],0):=by
    unfold Zj;rw [if_neg hn];simp [t0,t1,binF]
   rw [hE,Y6]
   refine ⟨⟨by omega,by omega⟩,by simp only [List.length_take];omega,by simp [St.pops,q1],by simp [St.pops,q2],by simp [St.pops,q3],by simp [St.pops,q4],?_⟩
   rw [e2n]
   simp [St.pops,q5]
   all_goals first|omega|exact List.take_of_length_le (by simp only [List.length_append,List.length_take,List.length_cons,List.length_nil];omega)
 · obtain rfl:op=7:=by omega
   clear ho
   refine ⟨by omega,by omega,fun a ha=>⟨by omega,by omega,fun b hb=> ?_⟩⟩
   have t1:topF s1.stack 1=a:=Yh (by rw [q5];exact ha) (by rw [q5];omega)
   have t0:topF s1.stack 0=b:=Yh (by rw [q5];exact hb) (by rw [q5];omega)
   have hE:Zj ⟨7,n,m⟩ v s1 below=(s1.pops 2 [max a b],0):=by
    unfold Zj;rw [if_neg hn];simp [t0,t1,binF]
   rw [hE,Y6]
   refine ⟨⟨by omega,by omega⟩,by simp only [List.length_take];omega,by simp [St.pops,q1],by simp [St.pops,q2],by simp [St.pops,q3],by simp [St.pops,q4],?_⟩
   rw [e2n]
   simp [St.pops,q5]
   all_goals first|omega|exact List.take_of_length_le (by simp only [List.length_append,List.length_take,List.length_cons,List.length_nil];omega)
 · obtain rfl:op=8:=by omega
   clear ho
   refine ⟨by omega,by omega,fun a ha=>⟨by omega,by omega,fun b hb=> ?_⟩⟩
   have t1:topF s1.stack 1=a:=Yh (by rw [q5];exact ha) (by rw [q5];omega)
   have t0:topF s1.stack 0=b:=Yh (by rw [q5];exact hb) (by rw [q5];omega)
   have hE:Zj ⟨8,n,m⟩ v s1 below=if (divF a b 8).2≠0 then (s1,(divF a b 8).2) else (s1.pops 2 [(divF a b 8).1],0):=by
    unfold Zj;rw [if_neg hn];simp [t0,t1,binF]
   have hw:wr .i64 (10+(divF a b 8).2)=10+(divF a b 8).2:=by
    have:=Un a b 8
    rw [wr64 (by omega) (by omega)]
   refine ⟨fun he=>⟨fun _=> ?_,fun h'=>absurd h' he⟩,fun he=> ?_⟩
   · rw [hE,if_pos he,Xc _ _ he,hw];simp [q1,q2,q3,q4,q5]
   · rw [hE,if_neg (by simp [he]),Y6]
     refine ⟨⟨by omega,by omega⟩,by simp only [List.length_take];omega,by simp [St.pops,q1],by simp [St.pops,q2],by simp [St.pops,q3],by simp [St.pops,q4],?_⟩
     rw [e2n]
     simp [St.pops,q5]
     all_goals first|omega|exact List.take_of_length_le (by simp only [List.length_append,List.length_take,List.length_cons,List.length_nil];omega)
 · obtain rfl:op=9:=by omega
   clear ho
   refine ⟨by omega,by omega,fun a ha=>⟨by omega,by omega,fun b hb=> ?_⟩⟩
   have t1:topF s1.stack 1=a:=Yh (by rw [q5];exact ha) (by rw [q5];omega)
   have t0:topF s1.stack 0=b:=Yh (by rw [q5];exact hb) (by rw [q5];omega)
   have hE:Zj ⟨9,n,m⟩ v s1 below=if (divF a b 9).2≠0 then (s1,(divF a b 9).2) else (s1.pops 2 [(divF a b 9).1],0):=by
    unfold Zj;rw [if_neg hn];simp [t0,t1,binF]
   have hw:wr .i64 (10+(divF a b 9).2)=10+(divF a b 9).2:=by
    have:=Un a b 9
    rw [wr64 (by omega) (by omega)]
   refine ⟨fun he=>⟨fun _=> ?_,fun h'=>absurd h' he⟩,fun he=> ?_⟩
   · rw [hE,if_pos he,Xc _ _ he,hw];simp [q1,q2,q3,q4,q5]
   · rw [hE,if_neg (by simp [he]),Y6]
     refine ⟨⟨by omega,by omega⟩,by simp only [List.length_take];omega,by simp [St.pops,q1],by simp [St.pops,q2],by simp [St.pops,q3],by simp [St.pops,q4],?_⟩
     rw [e2n]
     simp [St.pops,q5]
     all_goals first|omega|exact List.take_of_length_le (by simp only [List.length_append,List.length_take,List.length_cons,List.length_nil];omega)
 · obtain rfl:op=10:=by omega
   clear ho
   refine ⟨by omega,by omega,fun a ha=>⟨by omega,by omega,fun b hb=> ?_⟩⟩
   have t1:topF s1.stack 1=a:=Yh (by rw [q5];exact ha) (by rw [q5];omega)
   have t0:topF s1.stack 0=b:=Yh (by rw [q5];exact hb) (by rw [q5];omega)
   have hE:Zj ⟨10,n,m⟩ v s1 below=if (divF a b 10).2≠0 then (s1,(divF a b 10).2) else (s1.pops 2 [(divF a b 10).1],0):=by
    unfold Zj;rw [if_neg hn];simp [t0,t1,binF]
   have hw:wr .i64 (10+(divF a b 10).2)=10+(divF a b 10).2:=by
    have:=Un a b 10
    rw [wr64 (by omega) (by omega)]
   refine ⟨fun he=>⟨fun _=> ?_,fun h'=>absurd h' he⟩,fun he=> ?_⟩
   · rw [hE,if_pos he,Xc _ _ he,hw];simp [q1,q2,q3,q4,q5]
   · rw [hE,if_neg (by simp [he]),Y6]
     refine ⟨⟨by omega,by omega⟩,by simp only [List.length_take];omega,by simp [St.pops,q1],by simp [St.pops,q2],by simp [St.pops,q3],by simp [St.pops,q4],?_⟩
     rw [e2n]
     simp [St.pops,q5]
     all_goals first|omega|exact List.take_of_length_le (by simp only [List.length_append,List.length_take,List.length_cons,List.length_nil];omega)
 · obtain rfl:op=11:=by omega
   clear ho
   refine ⟨by omega,by omega,fun a ha=>⟨by omega,by omega,fun b hb=>⟨fun hab=> ?_,fun hab=> ?_⟩⟩⟩
   all_goals
    have t1:topF s1.stack 1=a:=Yh (by rw [q5];exact ha) (by rw [q5];omega)
    have t0:topF s1.stack 0=b:=Yh (by rw [q5];exact hb) (by rw [q5];omega)
    have hE:Zj ⟨11,n,m⟩ v s1 below=(s1.pops 2 [if a<b then 1 else 0],0):=by
     unfold Zj;rw [if_neg hn];simp [t0,t1,binF]
    rw [hE,Y6]
    refine ⟨⟨by omega,by omega⟩,by simp only [List.length_take];omega,by simp [St.pops,q1],by simp [St.pops,q2],by simp [St.pops,q3],by simp [St.pops,q4],?_⟩
    rw [e2n]
    simp [St.pops,q5,hab]
    all_goals first|omega|exact List.take_of_length_le (by simp only [List.length_append,List.length_take,List.length_cons,List.length_nil];omega)
end
section
open Go
def Sadv:Sum thy:=sumP (dL4 Zzg dEnv dSt dI) (fun x=>CanAdv x.1 x.2.2.1 x.2.2.2.1) fun x=>stV (advF x.1 x.2.1 x.2.2.1 x.2.2.2.1)
def A26:Fr thy->Hp thy->Nat->Ann thy:=fun T h i=>{X:=LX,fr:=fun x=> [(0,T 0),(1,T 1),(5,.int false .i64 x.k)],bl:=fun x=> [],src:=fun _=> [],md:= [],ih:=i,M:=i+30,meas:=fun x=>x.r}
def F6:Fns thy:=addL (addS F5 32 Sadv) 33 4 A26 E
theorem Zxe:FnsOk E F6:=Z3 E_ok (Zf Z2w (Yz E_ok (Zi (f:=32) rfl) fun x h=>Zjd x.1 x.2.1 x.2.2.1 x.2.2.2.1 h)) _ _ _
abbrev qBG3:=(0:Int)
abbrev qBG1 (a0:St):=(qBG3=St.pc a0/\qBG3=St.fuel a0/\qBG3=St.status a0/\qBG3=St.clause a0/\St.stack a0= []/\True)
abbrev qBG2 (a0:List Ins) (b0:Env) (c0:St) (d0:St):=(St.pc (advF a0 b0 c0 qBG3)=St.pc d0/\St.fuel (advF a0 b0 c0 qBG3)=St.fuel d0/\St.status (advF a0 b0 c0 qBG3)=St.status d0/\St.clause (advF a0 b0 c0 qBG3)=St.clause d0/\(St.stack (advF a0 b0 c0 qBG3)=St.stack d0/\(false=true->false=true))/\True)
theorem Zty (c:List Ins) (v:Env) (s:St) (z:St) (e:Int):Zr E F6 (vc E F6 400) 13 [.psl .ins c false,envV v,stV s] hp0 0 (fun r=>ret E (patch hp0 0 r) r.v (.tup [stV z,.int false .i64 e]))=(
 ((St.status s !=qBG3)=true->(qBG1 z)/\(211:Int)=e/\True)/\((St.status s !=qBG3)=false->True/\((Prod.snd (verF c) !=qBG3)=true->((Prod.snd (verF c) !=qBG3)=true->(qBG1 z)/\Prod.snd (verF c)=e/\True)/\((Prod.snd (verF c) !=qBG3)=false->CanAdv c s qBG3/\(qBG2 c v s z)/\qBG3=e/\True))/\((Prod.snd (verF c) !=qBG3)=false->∃(Q:Bool->Prop),((decide (St.pc s<qBG3)=true->Q true)/\(decide (St.pc s<qBG3)=false->(decide (St.pc s>=(↑(List.length c):Int))=true->Q true)/\(decide (St.pc s>=(↑(List.length c):Int))=false->(decide (St.fuel s<qBG3)=true->Q true)/\(decide (St.fuel s<qBG3)=false->(decide (St.fuel s>(32768:Int))=true->Q true)/\(decide (St.fuel s>(32768:Int))=false->((St.clause s !=qBG3)=true->Q true)/\((St.clause s !=qBG3)=false->(decide ((↑(List.length (St.stack s)):Int)>(64:Int))=true->Q true)/\(decide ((↑(List.length (St.stack s)):Int)>(64:Int))=false->Q false)))))))/\(Q true->(qBG1 z)/\(1:Int)=e/\True)/\(Q false->CanAdv c s qBG3/\(qBG2 c v s z)/\qBG3=e/\True)))):=by kernel_rfl
theorem Zp4 (f:Int) (z:St) (e:Int):Zr E F6 (vc E F6 400) 11 [.int false .i64 f] hp0 0 (fun r=>ret E (patch hp0 0 r) r.v (.tup [stV z,.int false .i64 e]))=(
∃(Q:Bool->Prop),((decide (f<(0:Int))=true->Q true)/\(decide (f<(0:Int))=false->(decide (f>(32768:Int))=true->Q true)/\(decide (f>(32768:Int))=false->Q false)))/\(Q true->((0:Int)=St.pc z/\(0:Int)=St.fuel z/\(0:Int)=St.status z/\(0:Int)=St.clause z/\St.stack z= []/\True)/\(1:Int)=e/\True)/\(Q false->((0:Int)=St.pc z/\f=St.fuel z/\(0:Int)=St.status z/\(0:Int)=St.clause z/\St.stack z= []/\True)/\(0:Int)=e/\True)):=by kernel_rfl
theorem Zlp (s:St) (a b e:Int):Zr E F6 (vc E F6 400) 16 [stV s] hp0 0 (fun r=>ret E (patch hp0 0 r) r.v (.tup [.int false .i64 a,.int false .i64 b,.int false .i64 e]))=(
((St.status s==(1:Int))=true->(decide ((↑(List.length (St.stack s)):Int)>(0:Int))=true->(0:Int)<=wr IntKind.i64 ((↑(List.length (St.stack s)):Int)-(1:Int))/\wr IntKind.i64 ((↑(List.length (St.stack s)):Int)-(1:Int))+(1:Int)<=(↑(List.length (St.stack s)):Int)/\∀(x:Int),(St.stack s)[Int.toNat (wr IntKind.i64 ((↑(List.length (St.stack s)):Int)-(1:Int)))]? =some x->x=a/\St.clause s=b/\(0:Int)=e/\True)/\(decide ((↑(List.length (St.stack s)):Int)>(0:Int))=false->(decide (St.status s>(10:Int))=true->(0:Int)=a/\(0:Int)=b/\wr IntKind.i64 (St.status s-(10:Int))=e/\True)/\(decide (St.status s>(10:Int))=false->(0:Int)=a/\(0:Int)=b/\(1:Int)=e/\True)))/\((St.status s==(1:Int))=false->(decide (St.status s>(10:Int))=true->(0:Int)=a/\(0:Int)=b/\wr IntKind.i64 (St.status s-(10:Int))=e/\True)/\(decide (St.status s>(10:Int))=false->(0:Int)=a/\(0:Int)=b/\(1:Int)=e/\True))):=by kernel_rfl
abbrev qBG4 (a0:St):=(↑(List.length (St.stack a0)):Int)
abbrev qBG5 (a0:St):=(St.stack a0=St.stack a0/\(false=true->false=true))
abbrev qBG6 (a0:LX):=(↑(LX.k a0):Int)
theorem Ztz (a b:St) (q:Bool):Zr E F6 (vc E F6 400) 14 [stV a,stV b] hp0 0 (fun r=>ret E (patch hp0 0 r) r.v (.bool false q))=(
 ((St.pc a==St.pc b)=true->((St.fuel a==St.fuel b)=true->((St.status a==St.status b)=true->((St.clause a==St.clause b)=true->(((qBG4 a) !=(qBG4 b))=true->false=q)/\(((qBG4 a) !=(qBG4 b))=false->∃(R:LX->Prop),(∃(x:LX),R x/\true=true/\((qBG5 a)/\(qBG5 b)/\(0:Int)=(qBG6 x)/\True)/\True)/\∀(x:LX),R x->(decide ((qBG6 x)<(qBG4 a))=true->(0:Int)<=(qBG6 x)/\(qBG6 x)+(1:Int)<=(qBG4 a)/\∀(x_1:Int),(St.stack a)[Int.toNat (qBG6 x)]? =some x_1->(0:Int)<=(qBG6 x)/\(qBG6 x)+(1:Int)<=(qBG4 b)/\∀(x_2:Int),(St.stack b)[Int.toNat (qBG6 x)]? =some x_2->((x_1 !=x_2)=true->false=q)/\((x_1 !=x_2)=false->∃(x':LX),R x'/\x'.2+(1:Nat)<=x.2/\true=true/\((qBG5 a)/\(qBG5 b)/\wr IntKind.i64 ((qBG6 x)+(1:Int))=(qBG6 x')/\True)/\True))/\(decide ((qBG6 x)<(qBG4 a))=false->true=q)))/\((St.clause a==St.clause b)=false->false=q))/\((St.status a==St.status b)=false->false=q))/\((St.fuel a==St.fuel b)=false->false=q))/\((St.pc a==St.pc b)=false->false=q)):=by kernel_rfl
end
section
open Go
theorem Zon (f:Int):PureC E 11 [.int false .i64 f] (.tup [stV (Za4 f).1,.int false .i64 (Za4 f).2]):=by
 refine Za E_ok (Zg E_ok Zxe 400) ?_
 rw [Zp4]
 simp only [Z9,Zy,Xz,X0,X1,beq_iff_eq,bne_iff_ne,beq_eq_false_iff_ne,bne_eq_false_iff_eq,decide_eq_true_eq,decide_eq_false_iff_not,Bool.or_eq_true,Bool.or_eq_false_iff,Bool.not_eq_true',Bool.not_eq_false',Bool.and_eq_true,Bool.and_true,Bool.true_and,Bool.and_eq_false_iff,beq_self_eq_true,Z4,Yf,ne_eq,and_true,true_and,Bool.true_eq_false,Bool.false_eq_true,false_or,or_false,true_implies,Int.ofNat_eq_natCast,not_true_eq_false,not_false_eq_true,Decidable.not_not,gt_iff_lt,ge_iff_le]
 refine ⟨fun b=>(b=true↔(f<0\/32768<f)),⟨fun h=>by simp [h],fun h=>⟨fun h'=>by simp [h'],fun h'=>by simp;omega⟩⟩,fun hQ=> ?_,fun hQ=> ?_⟩
 · have hQ:=hQ.1 rfl
   unfold Za4;rw [if_pos hQ];simp [St.zero]
 · have hQ:¬(f<0\/32768<f):=fun h=>absurd (hQ.2 h) (by simp)
   unfold Za4;rw [if_neg hQ];simp [St.start]
theorem Zrf (c:List Ins) (v:Env) (s:St):PureC E 13 [.psl .ins c false,envV v,stV s] (.tup [stV (V7 c v s).1,.int false .i64 (V7 c v s).2]):=by
 refine Za E_ok (Zg E_ok Zxe 400) ?_
 rw [Zty]; delta qBG3 qBG1 qBG2
 simp only [Z9,Zy,Xz,X0,X1,beq_iff_eq,bne_iff_ne,beq_eq_false_iff_ne,bne_eq_false_iff_eq,decide_eq_true_eq,decide_eq_false_iff_not,Bool.or_eq_true,Bool.or_eq_false_iff,Bool.not_eq_true',Bool.not_eq_false',Bool.and_eq_true,Bool.and_true,Bool.true_and,Bool.and_eq_false_iff,beq_self_eq_true,Z4,Yf,ne_eq,and_true,true_and,Bool.true_eq_false,Bool.false_eq_true,false_or,or_false,true_implies,Int.ofNat_eq_natCast,not_true_eq_false,not_false_eq_true,Decidable.not_not,gt_iff_lt,ge_iff_le]
 refine ⟨fun hs=> ?_,fun hs=>⟨fun hv=>⟨fun _=> ?_,fun h=>absurd h hv⟩,fun hv=> ?_⟩⟩
 · have hr:Wk c s 0=211:=by unfold Wk;rw [if_pos hs]
   unfold V7;rw [hr];simp [St.zero]
 · have hr:Wk c s 0=(verF c).2:=by unfold Wk;rw [if_neg (by simpa using hs),if_pos hv]
   unfold V7;rw [hr,if_pos hv];simp [St.zero]
 have hr:Wk c s 0=if s.pc<0\/c.length<=s.pc\/s.fuel<0\/32768<s.fuel\/s.clause≠0\/(0:Int)<0\/64<(0:Int)\/64-(0:Int)<s.stack.length then 1 else 0:=by
  unfold Wk;rw [if_neg (by simpa using hs),if_neg (by simpa using hv)]
 refine ⟨fun b=>(b=true↔(s.pc<0\/c.length<=s.pc\/s.fuel<0\/32768<s.fuel\/s.clause≠0\/64<(s.stack.length:Int))),?_,fun hQ=> ?_,fun hQ=> ?_⟩
 · repeat' (first|(refine And.intro ?_ ?_)|(intro h))
   all_goals simp only [eq_self,true_iff,Bool.false_eq_true,false_iff]
   all_goals omega
 · have hQ:=hQ.1 rfl
   rw [if_pos (by omega)] at hr
   unfold V7;rw [hr];simp [St.zero]
 · have hQ:¬(s.pc<0\/c.length<=s.pc\/s.fuel<0\/32768<s.fuel\/s.clause≠0\/64<(s.stack.length:Int)):=fun h=>absurd (hQ.2 h) (by simp)
   rw [if_neg (by omega)] at hr
   obtain ⟨D,hD⟩:=V8 hv
   refine ⟨⟨hD.short,by omega,by omega,fun x hx=>hD.formed _ _ hx,by omega,by omega,by omega,by omega,by omega⟩,?_⟩
   unfold V7;rw [hr];simp
theorem Zdf (s:St) (h:s.stack.length<=1000000):PureC E 16 [stV s] (.tup [.int false .i64 (Zt s).1,.int false .i64 (Zt s).2.1,.int false .i64 (Zt s).2.2]):=by
 refine Za E_ok (Zg E_ok Zxe 400) ?_
 rw [Zlp]
 have e1:wr .i64 ((s.stack.length:Int)-1)=s.stack.length-1:=wr64 (by omega) (by omega)
 have e2:wr .i64 (s.status-10)=IntKind.i64.wrap (s.status-10):=rfl
 simp only [Z9,Zy,Xz,X0,X1,beq_iff_eq,bne_iff_ne,beq_eq_false_iff_ne,bne_eq_false_iff_eq,decide_eq_true_eq,decide_eq_false_iff_not,Bool.or_eq_true,Bool.or_eq_false_iff,Bool.not_eq_true',Bool.not_eq_false',Bool.and_eq_true,Bool.and_true,Bool.true_and,Bool.and_eq_false_iff,beq_self_eq_true,Z4,Yf,ne_eq,and_true,true_and,Bool.true_eq_false,Bool.false_eq_true,false_or,or_false,true_implies,Int.ofNat_eq_natCast,not_true_eq_false,not_false_eq_true,Decidable.not_not,gt_iff_lt,ge_iff_le,e1,e2]
 unfold Zt
 refine ⟨fun h1=>⟨fun h2=>⟨by omega,by omega,fun x hx=> ?_⟩,fun h2=>⟨fun h3=>by omega,fun h3=> ?_⟩⟩,fun h1=>⟨fun h3=> ?_,fun h3=> ?_⟩⟩
 · rw [show Int.toNat ((s.stack.length:Int)-1)=s.stack.length-1 by omega] at hx
   rw [if_pos ⟨h1,by omega⟩];simp [List.getD_eq_getElem?_getD,hx]
 · rw [if_neg (by omega),if_neg (by omega)];simp
 · rw [if_neg (by omega),if_pos h3];simp
 · rw [if_neg (by omega),if_neg (by omega)];simp
theorem Zrg (a b:St) (h:a.stack.length<=1000000):PureC E 14 [stV a,stV b] (.bool false (Ztj a b)):=by
 refine Za E_ok (Zg E_ok Zxe 400) ?_
 rw [Ztz]; delta qBG4 qBG5 qBG6
 simp only [Z9,Zy,Xz,X0,X1,beq_iff_eq,bne_iff_ne,beq_eq_false_iff_ne,bne_eq_false_iff_eq,decide_eq_true_eq,decide_eq_false_iff_not,Bool.or_eq_true,Bool.or_eq_false_iff,Bool.not_eq_true',Bool.not_eq_false',Bool.and_eq_true,Bool.and_true,Bool.true_and,Bool.and_eq_false_iff,beq_self_eq_true,Z4,Yf,ne_eq,and_true,true_and,Bool.true_eq_false,Bool.false_eq_true,false_or,or_false,true_implies,Int.ofNat_eq_natCast,not_true_eq_false,not_false_eq_true,Decidable.not_not,gt_iff_lt,ge_iff_le,Int.toNat_natCast]
 unfold Ztj
 refine ⟨fun h1=>⟨fun h2=>⟨fun h3=>⟨fun h4=>⟨fun h5=> ?_,fun h5=> ?_⟩,fun h4=>by simp [h4]⟩,fun h3=>by simp [h3]⟩,fun h2=>by simp [h2]⟩,fun h1=>by simp [h1]⟩
 · symm
   rw [decide_eq_false_iff_not]
   rintro ⟨_,_,_,_,e⟩
   exact h5 (by rw [e])
 refine ⟨fun x=>x.k+x.r=a.stack.length/\a.stack.take x.k=b.stack.take x.k,⟨⟨0,a.stack.length,[],0⟩,by simp,by simp⟩,fun x hR=>⟨fun hlt=>⟨by omega,by omega,fun y hy=>⟨by omega,by omega,fun z hz=>⟨fun hyz=> ?_,fun hyz=> ?_⟩⟩⟩,fun hge=> ?_⟩⟩
 · symm
   rw [decide_eq_false_iff_not]
   rintro ⟨_,_,_,_,e⟩
   rw [e,hz] at hy
   exact hyz (Option.some.inj hy).symm
 · obtain ⟨hk,ht⟩:=hR
   refine ⟨⟨x.k+1,x.r-1,[],0⟩,⟨by show x.k+1+(x.r-1)=_;omega,?_⟩,by show x.r-1+1<=x.r;omega,?_⟩
   · show a.stack.take (x.k+1)=b.stack.take (x.k+1)
     obtain ⟨ha,rfl⟩:=gA9.1 hy
     obtain ⟨hb,rfl⟩:=gA9.1 hz
     rw [List.take_succ_eq_append_getElem ha,List.take_succ_eq_append_getElem hb,ht,hyz]
   · rw [wr64 (by omega) (by omega)];simp
 · obtain ⟨hk,ht⟩:=hR
   rw [List.take_of_length_le (by omega),List.take_of_length_le (by omega)] at ht
   symm
   rw [decide_eq_true_eq]
   exact ⟨h1,h2,h3,h4,ht⟩
end
section
open Go.ChangeShapes Go.WideShapes Go.ChangeAt Go.RowKit
section
variable {H:Type} {enc:TypeId × Value->H} {w:World} {spare:Nat->Bool} {held:Bool}
theorem Zs6:Tryz.prog.cellsOf 3=1:=by kernel_rfl
theorem Z0x:Tryz.prog.cellsOf 24=16:=by kernel_rfl
theorem Z0y:Tryz.prog.cellsOf 26=17:=by kernel_rfl
theorem Zs7:Tryz.prog.cellsOf 58=3:=by kernel_rfl
theorem Z4f {cs:List Value} (h:cs.length=3):∃a b c,cs= [a,b,c]:=by
 match cs,h with
 | [a,b,c],_=>exact ⟨a,b,c,rfl⟩
theorem Zkw (fuel:Nat) (cs:List Value) (x:DataW H×List MemPlace) (h:DataW.trod enc Tryz.prog w 0 spare held fuel 58 cs=some x):∃a:Ins,∀(j:Nat) sv,(E.enc Th.ins a)[j]? =some sv->∃v,cs[j]? =some v/\Den E σ0 (gTop w) sv v:=by
 obtain ⟨xs,n,rfl,_,hl,hxl,hf⟩:=DataW.trod_struct Tryz.underlying58 h
 rw [Zs7] at hl
 obtain ⟨a,b,c,rfl⟩:=Z4f hl
 have hx3:xs.length=3:=by simpa using hxl
 have h0:=hf 0 _ rfl
 have h1:=hf 1 _ rfl
 have h2:=hf 2 _ rfl
 rw [gB9 (by omega)] at h0 h1 h2
 simp only [List.getElem_toArray,List.getElem_cons_zero,List.getElem_cons_succ,Zs6,List.drop_zero,List.drop_succ_cons,List.take_succ_cons,List.take_zero] at h0 h1 h2
 obtain ⟨p,hp,_⟩:=Zd2 Tryz.underlying3 h0
 obtain ⟨q,hq,_⟩:=Zd2 Tryz.underlying3 h1
 obtain ⟨r,hr,_⟩:=Zd2 Tryz.underlying3 h2
 simp only [List.cons.injEq,and_true] at hp hq hr
 subst hp hq hr
 refine ⟨⟨p,q,r⟩,fun j sv hj=> ?_⟩
 match j,hj with
 |0,hj=>cases hj;exact ⟨_,rfl,.int _ _ _⟩
 |1,hj=>cases hj;exact ⟨_,rfl,.int _ _ _⟩
 |2,hj=>cases hj;exact ⟨_,rfl,.int _ _ _⟩
set_option maxRecDepth 100000 in
theorem Zs8 {r:Reach} {b0:Nat} {v:Value} {d:DataW H} {ps:List MemPlace} (hval:Value.okWide Tryz.prog w r b0 23 v) (h:DataW.Trod enc Tryz.prog w 0 spare held 23 v d ps):∃l:List Ins,Den E σ0 (gTop w) (.psl Th.ins l false) v:=by
 obtain ⟨a,len,cap,rfl⟩:=okWide_slice Tryz.underlying23 hval
 obtain ⟨fuel,h⟩:=h
 obtain ⟨sv,l,h1,h2⟩:=Zkj (E:=E) (th:=Th.ins) (fun _=>rfl) (by decide) Tryz.underlying23 Zs7 h (fun n cs' y hy=>Zkw n cs' y hy)
 have h1: [Value.slice a len cap]= [sv]:=h1
 cases h1
 exact ⟨l,h2⟩
set_option maxHeartbeats 1000000 in
theorem Zwu {v:Value} {d:DataW H} {ps:List MemPlace} (h:DataW.Trod enc Tryz.prog w 0 spare held 26 v d ps):∃x:Env,Den E σ0 (gTop w) (envV x) v:=by
 obtain ⟨fuel,h⟩:=h
 obtain ⟨xs,n,rfl,_,hl,hxl,hf⟩:=DataW.trod_struct Tryz.underlying26 h
 rw [Z0y] at hl
 have hv:=Zit hl (by decide)
 generalize v.cells.toList=cs at*
 have h0:=hf 0 _ rfl
 have h1:=hf 1 _ rfl
 have hx2:xs.length=2:=by simpa using hxl
 rw [gB9 (by omega)] at h0 h1
 simp only [List.getElem_toArray,List.getElem_cons_zero,List.getElem_cons_succ,Zs6,Z0x,List.drop_zero] at h0 h1
 obtain ⟨p,hp,ip⟩:=Zd2 Tryz.underlying3 h0
 obtain ⟨ys,m,rfl,_,_,hyl,hg⟩:=DataW.trod_array Tryz.underlying24 h1
 have hall:∀i,i<16->∃n:Int,cs[1+i]? =some (.int .i64 n):=by
  intro i hi
  have h2:=hg i hi
  rw [gB9 (by omega)] at h2
  simp only [List.getElem_toArray,List.getElem_cons_zero,List.getElem_cons_succ,Zs6,Nat.mul_one] at h2
  obtain ⟨n,hn,_⟩:=Zd2 Tryz.underlying3 h2
  refine ⟨n,?_⟩
  have h3:((((cs.drop 1).take 16).drop i).take 1)[0]? =some (.int .i64 n):=by rw [hn];rfl
  rw [List.getElem?_take,if_pos (by decide),List.getElem?_drop,List.getElem?_take,if_pos (by omega),List.getElem?_drop] at h3
  simpa using h3
 have hp0:cs[0]? =some (.int .i64 p):=by
  have h3:((cs.take 1))[0]? =some (.int .i64 p):=by rw [hp];rfl
  rw [List.getElem?_take,if_pos (by decide)] at h3
  exact h3
 obtain ⟨f,hfam⟩:=Go.Deep.choose_lt (α:=Int) hall
 rw [hv]
 refine ⟨⟨p,f 0,f 1,f 2,f 3,f 4,f 5,f 6,f 7,f 8,f 9,f 10,f 11,f 12,f 13,f 14,f 15⟩,.agg (fun j=>cs.getD j undef) (by simp [hl]) (fun j hj=> ?_) (fun j sv hj=> ?_)⟩
 · have hj:j<17:=hj
   rw [List.getElem?_toArray,List.getD_eq_getElem?_getD,gB9 (by omega)];rfl
 · match j,hj with
   |0,hj=>cases hj;show Den E σ0 (gTop w) (.int false .i64 p) _;rw [List.getD_eq_getElem?_getD,hp0];exact .int _ _ _
   |1,hj=>cases hj;show Den E σ0 (gTop w) (.int false .i64 (f 0)) _;rw [List.getD_eq_getElem?_getD,show cs[1]? =_ from hfam 0 (by omega)];exact .int _ _ _
   |2,hj=>cases hj;show Den E σ0 (gTop w) (.int false .i64 (f 1)) _;rw [List.getD_eq_getElem?_getD,show cs[2]? =_ from hfam 1 (by omega)];exact .int _ _ _
   |3,hj=>cases hj;show Den E σ0 (gTop w) (.int false .i64 (f 2)) _;rw [List.getD_eq_getElem?_getD,show cs[3]? =_ from hfam 2 (by omega)];exact .int _ _ _
   |4,hj=>cases hj;show Den E σ0 (gTop w) (.int false .i64 (f 3)) _;rw [List.getD_eq_getElem?_getD,show cs[4]? =_ from hfam 3 (by omega)];exact .int _ _ _
   |5,hj=>cases hj;show Den E σ0 (gTop w) (.int false .i64 (f 4)) _;rw [List.getD_eq_getElem?_getD,show cs[5]? =_ from hfam 4 (by omega)];exact .int _ _ _
   |6,hj=>cases hj;show Den E σ0 (gTop w) (.int false .i64 (f 5)) _;rw [List.getD_eq_getElem?_getD,show cs[6]? =_ from hfam 5 (by omega)];exact .int _ _ _
   |7,hj=>cases hj;show Den E σ0 (gTop w) (.int false .i64 (f 6)) _;rw [List.getD_eq_getElem?_getD,show cs[7]? =_ from hfam 6 (by omega)];exact .int _ _ _
   |8,hj=>cases hj;show Den E σ0 (gTop w) (.int false .i64 (f 7)) _;rw [List.getD_eq_getElem?_getD,show cs[8]? =_ from hfam 7 (by omega)];exact .int _ _ _
   |9,hj=>cases hj;show Den E σ0 (gTop w) (.int false .i64 (f 8)) _;rw [List.getD_eq_getElem?_getD,show cs[9]? =_ from hfam 8 (by omega)];exact .int _ _ _
   |10,hj=>cases hj;show Den E σ0 (gTop w) (.int false .i64 (f 9)) _;rw [List.getD_eq_getElem?_getD,show cs[10]? =_ from hfam 9 (by omega)];exact .int _ _ _
   |11,hj=>cases hj;show Den E σ0 (gTop w) (.int false .i64 (f 10)) _;rw [List.getD_eq_getElem?_getD,show cs[11]? =_ from hfam 10 (by omega)];exact .int _ _ _
   |12,hj=>cases hj;show Den E σ0 (gTop w) (.int false .i64 (f 11)) _;rw [List.getD_eq_getElem?_getD,show cs[12]? =_ from hfam 11 (by omega)];exact .int _ _ _
   |13,hj=>cases hj;show Den E σ0 (gTop w) (.int false .i64 (f 12)) _;rw [List.getD_eq_getElem?_getD,show cs[13]? =_ from hfam 12 (by omega)];exact .int _ _ _
   |14,hj=>cases hj;show Den E σ0 (gTop w) (.int false .i64 (f 13)) _;rw [List.getD_eq_getElem?_getD,show cs[14]? =_ from hfam 13 (by omega)];exact .int _ _ _
   |15,hj=>cases hj;show Den E σ0 (gTop w) (.int false .i64 (f 14)) _;rw [List.getD_eq_getElem?_getD,show cs[15]? =_ from hfam 14 (by omega)];exact .int _ _ _
   |16,hj=>cases hj;show Den E σ0 (gTop w) (.int false .i64 (f 15)) _;rw [List.getD_eq_getElem?_getD,show cs[16]? =_ from hfam 15 (by omega)];exact .int _ _ _
end
section
variable {H:Type} {enc:TypeId × Value->H} {w:World} {spare:Nat->Bool} {held:Bool}
end
end
section
open Go.ChangeShapes Go.WideShapes Go.ChangeAt Go.RowKit
theorem Zok {g g':GH} {w w':World} (h:Stp 0 0 [] σ0 g w σ0 g' w'):Ext w w':=⟨h.os,h.tape,h.output,h.size,fun k hk=>h.heap k hk (by simp)⟩
theorem Z33 {g:GH} {s0:SV thy} {v0:Value} (h0:Den E σ0 g s0 v0):DenL E σ0 g [s0] [v0]:=⟨rfl,fun j sv v h1 h2=>by
 match j,h1,h2 with
 |0,h1,h2=>cases h1;cases h2;exact h0⟩
theorem Zh1 {g:GH} {s0:SV thy} {v0:Value} {ss:List (SV thy)} {vs:List Value} (h0:Den E σ0 g s0 v0) (h:DenL E σ0 g ss vs):DenL E σ0 g (s0::ss) (v0::vs):=⟨by simp [h.1],fun j sv v h1 h2=>by
 cases j with
 |zero=>cases h1;cases h2;exact h0
 |succ j=>exact h.2 j sv v h1 h2⟩
end
section
open Go
def nbN (u:Nat):Nat:=if h:u=0 then 0 else nbN (u/256)+1
termination_by u
theorem Zho:nbN 0=0:=by unfold nbN;simp
theorem Zvh {u:Nat} (h:u≠0):nbN u=nbN (u/256)+1:=by rw [nbN.eq_1 u,dif_neg h]
theorem Zn6:∀(k u:Nat),u<256^k->nbN u<=k
 |0,u,h=>by
  obtain rfl:u=0:=by simpa using h
  rw [Zho];exact Nat.le_refl _
 |k+1,u,h=>by
  by_cases h0:u=0
  · subst h0;rw [Zho];omega
  · rw [Zvh h0]
    have:=Zn6 k (u/256) (by rw [Nat.div_lt_iff_lt_mul (by omega)];rw [Nat.pow_succ] at h;exact h)
    omega
def intB (n:Int) (k:Nat) (i:Nat):Int:=wr .u8 (Int.fdiv (wr .u64 n) (2^min (Int.toNat (8*((k:Int)-1-(i:Int)))) 64))
def Wm (n:Int):Nat:=if n<0 then nbN (18446744073709551615-wr .u64 n).toNat else nbN (wr .u64 n).toNat
def tagI (n:Int):Int:=if n<0 then 31-(Wm n:Int) else 32+(Wm n:Int)
def encI (n:Int):List Int:=tagI n::(List.range (Wm n)).map (intB n (Wm n))
theorem wru (n:Int):0<=wr .u64 n/\wr .u64 n<18446744073709551616:=by simp only [wr,IntKind.wrap_u64];omega
theorem Zhp (n:Int):Wm n<=8:=by
 unfold Wm
 have:=wru n
 split
 · exact Zn6 8 _ (by omega)
 · exact Zn6 8 _ (by omega)
theorem Zc0 (n:Int):(encI n).length=Wm n+1:=by simp [encI]
def escB:List Int->List Int
 | []=> []
 |b::r=>if b=0 then b::255::escB r else b::escB r
theorem Uw (a b:List Int):escB (a++b)=escB a++escB b:=by
 induction a with
 |nil=>rfl
 |cons x a ih=>simp only [List.cons_append,escB];split<;>simp [ih]
theorem Zyf (a:List Int):(escB a).length<=2*a.length:=by
 induction a with
 |nil=>simp [escB]
 |cons x a ih=>simp only [escB];split<;>simp<;>omega
mutual
def encV:Val->List Int
 | .mk k n b l=>if k=1 then encI n else if k=2 then 48::escB b++ [0,0] else 64::encL l++ [0]
def encL:List Val->List Int
 | []=> []
 |v::r=>encV v++encL r
end
theorem Zc1 (a b:List Val):encL (a++b)=encL a++encL b:=by
 induction a with
 |nil=>rfl
 |cons x a ih=>simp only [List.cons_append,encL,ih,List.append_assoc]
mutual
def Z0:Val->Int×Bool
 | .mk k n b l=>if k=1 then (0,b.isEmpty&&l.isEmpty) else if k=2 then (0,n==0&&l.isEmpty) else if k=3 then (if n≠0\/b≠ [] then (0,false) else Vn l 0) else (0,false)
def Vn:List Val->Int->Int×Bool
 | [],d=>(d+1,true)
 |v::r,d=>if (Z0 v).2 then Vn r (max d (Z0 v).1) else (0,false)
end
mutual
def Val.ht:Val->Nat
 | .mk _ _ _ l=>htL l+1
def htL:List Val->Nat
 | []=>0
 |v::r=>max v.ht (htL r)
end
theorem Zn7 {v:Val}:∀{l:List Val},v∈l->v.ht<=htL l
 |x::r,h=>by
  rw [htL]
  rcases List.mem_cons.1 h with rfl|h
  · omega
  · have:=Zn7 h;omega
theorem Zl8 (v:Val):v.ht=htL v.l+1:=by cases v;rfl
mutual
def Val.sz:Val->Nat
 | .mk _ _ b l=>2*b.length+szL l+16
def szL:List Val->Nat
 | []=>0
 |v::r=>v.sz+szL r
end
theorem Zyg (v:Val):v.sz=2*v.b.length+szL v.l+16:=by cases v;rfl
mutual
theorem Zn8:∀(v:Val),(encV v).length<=v.sz
 | .mk k n b l=>by
  rw [encV,Val.sz]
  have h1:=Zhp n
  have h2:=Zn9 l
  have h3:=Zyf b
  split
  · rw [Zc0];omega
  · split
    · simp;omega
    · simp;omega
theorem Zn9:∀(l:List Val),(encL l).length<=szL l
 | []=>Nat.le_refl _
 |v::r=>by
  rw [encL,szL,List.length_append]
  have:=Zn8 v
  have:=Zn9 r
  omega
end
theorem Ue (v:Val):Val.mk v.k v.n v.b v.l=v:=by cases v;rfl
structure OkV (v:Val):Prop where
 sz:v.sz<=1000000000000
theorem Zzc {v:Val}:∀{l:List Val},v∈l->v.sz<=szL l
 |x::r,h=>by
  rw [szL]
  rcases List.mem_cons.1 h with rfl|h
  · omega
  · have:=Zzc h;omega
mutual
theorem Z3z:∀v:Val,v.ht<=v.sz
 | .mk k n b l=>by have:=Zzd l;rw [Val.ht,Val.sz];omega
theorem Zzd:∀l:List Val,htL l<=szL l
 | []=>Nat.le_refl _
 |v::r=>by have:=Z3z v;have:=Zzd r;rw [htL,szL];omega
end
theorem Zvi:∀(l:List Val),l.length<=szL l
 | []=>Nat.le_refl _
 |x::r=>by
  have:=Zvi r
  have h2:=Zyg x
  rw [szL,List.length_cons]
  omega
theorem OkV.mem {v x:Val} (h:OkV v) (hx:x∈v.l):OkV x:=by
 refine ⟨?_⟩
 have:=h.sz;have:=Zzc hx;have:=Zyg v;omega
theorem OkV.ln {v:Val} (h:OkV v):v.l.length<=1000000000000:=by
 have:=h.sz;have:=Zvi v.l;have:=Zyg v;omega
theorem OkV.bn {v:Val} (h:OkV v):v.b.length<=1000000000000:=by
 have:=h.sz;have:=Zyg v;omega
theorem OkV.en {v:Val} (h:OkV v):(encV v).length<=1000000000000:=Nat.le_trans (Zn8 v) h.sz
theorem Zoa:∀(n:Nat) (v:Val),v.ht<=n->0<=(Z0 v).1/\(Z0 v).1<=n
 |0,v,h=>by rw [Zl8] at h;omega
 |n+1,v,h=>by
  have hl:∀(l:List Val) (d:Int),htL l<=n->0<=d->d<=n->0<=(Vn l d).1/\(Vn l d).1<=n+1:=by
   intro l
   induction l with
   |nil=>intro d _ h1 h2;rw [Vn];exact ⟨by show 0<=d+1;omega,by show d+1<=n+1;omega⟩
   |cons x r ih=>
    intro d h0 h1 h2
    rw [htL] at h0
    obtain ⟨k1,k2⟩:=Zoa n x (by omega)
    rw [Vn]
    split
    · exact ih _ (by omega) (by omega) (by omega)
    · exact ⟨Int.le_refl _,by show (0:Int)<=_;omega⟩
  cases v with
  |mk k m b l=>
   rw [Zl8] at h
   simp only [Val.l] at h
   rw [Z0]
   split
   · exact ⟨Int.le_refl _,by show (0:Int)<=_;omega⟩
   · split
     · exact ⟨Int.le_refl _,by show (0:Int)<=_;omega⟩
     · split
       · split
         · exact ⟨Int.le_refl _,by show (0:Int)<=_;omega⟩
         · exact hl l 0 (by omega) (Int.le_refl _) (by omega)
       · exact ⟨Int.le_refl _,by show (0:Int)<=_;omega⟩
theorem Zvj (v:Val):Z0 v=if v.k=1 then (0,v.b.isEmpty&&v.l.isEmpty) else if v.k=2 then (0,v.n==0&&v.l.isEmpty) else if v.k=3 then (if v.n≠0\/v.b≠ [] then (0,false) else Vn v.l 0) else (0,false):=by cases v;rw [Z0];rfl
theorem Zc2 (v:Val):encV v=if v.k=1 then encI v.n else if v.k=2 then 48::escB v.b++ [0,0] else 64::encL v.l++ [0]:=by cases v;rw [encV];rfl
theorem Zfw (a b:List Val) (d:Int) (ha:∀v∈a,(Z0 v).2=true):Vn (a++b) d=Vn b (a.foldl (fun d v=>max d (Z0 v).1) d):=by
 induction a generalizing d with
 |nil=>rfl
 |cons x a ih=>
  rw [List.cons_append,Vn,if_pos (ha x (by simp)),ih _ fun v hv=>ha v (by simp [hv])]
  rfl
theorem Xg {α:Type} {l:List α} {k:Nat} {x:α} (h:l[k]? =some x):l.take (k+1)=l.take k++ [x]:=by rw [List.take_add_one,h];rfl
end
section
open Go
def Z4u:Fr thy->Hp thy->Nat->Ann thy:=fun T h i=>{X:=DX,fr:=fun x=> [(0,.int false .u64 x.j),(2,.int false .i64 x.k)],bl:=fun x=> [],src:=fun _=> [],md:= [],ih:=i,M:=i+10,meas:=fun x=>x.r}
def Z1w:Fns thy:=addL F0 141 1 Z4u E
theorem Zxz:FnsOk E Z1w:=Z3 E_ok F0_ok _ _ _
theorem Zu2 (u:Int) (k:Int):Zr E Z1w (vc E Z1w 400) 141 [.int false .u64 u] hp0 0 (fun r=>ret E (patch hp0 0 r) r.v (.int false .i64 k))=(
∃(R:DX->Prop),(∃(x:DX),R x/\true=true/\(u=DX.j x/\(0:Int)=(↑(DX.k x):Int)/\True)/\True)/\∀(x:DX),R x->(decide (DX.j x>(0:Int))=true->∃(x':DX),R x'/\x'.2+(1:Nat)<=x.2/\true=true/\(Int.fdiv (DX.j x) ((2:Int)^min (Int.toNat (8:Int)) (IntKind.bits IntKind.u64))=DX.j x'/\wr IntKind.i64 ((↑(DX.k x):Int)+(1:Int))=(↑(DX.k x'):Int)/\True)/\True)/\(decide (DX.j x>(0:Int))=false->(↑(DX.k x):Int)=k)):=by kernel_rfl
theorem shr8 (x:Int):Int.fdiv x ((2:Int)^min (Int.toNat (8:Int)) (IntKind.bits IntKind.u64))=x/256:=by
 show Int.fdiv x 256=_
 rw [Int.fdiv_eq_ediv_of_nonneg _ (by omega)]
theorem Zu3 (u:Int) (h0:0<=u) (h1:u<18446744073709551616):PureC E 141 [.int false .u64 u] (.int false .i64 (nbN u.toNat:Int)):=by
 refine Za E_ok (Zg E_ok Zxz 400) ?_
 rw [Zu2]
 simp only [Z9,Zy,Xz,X0,X1,beq_iff_eq,bne_iff_ne,beq_eq_false_iff_ne,bne_eq_false_iff_eq,decide_eq_true_eq,decide_eq_false_iff_not,Bool.or_eq_true,Bool.or_eq_false_iff,Bool.not_eq_true',Bool.not_eq_false',Bool.and_eq_true,Bool.and_true,Bool.true_and,Bool.and_eq_false_iff,beq_self_eq_true,Z4,Yf,ne_eq,and_true,true_and,Bool.true_eq_false,Bool.false_eq_true,false_or,or_false,true_implies,Int.ofNat_eq_natCast,not_true_eq_false,not_false_eq_true,Decidable.not_not,shr8]
 have hb:=Zn6 8 u.toNat (by omega)
 refine ⟨fun x=>0<=x.j/\x.k+nbN x.j.toNat=nbN u.toNat/\x.r=nbN x.j.toNat,⟨⟨0,nbN u.toNat,[],[],0,0,0,u⟩,⟨h0,by simp,rfl⟩,rfl,rfl⟩,?_⟩
 rintro x ⟨x0,x1,x2⟩
 refine And.intro (fun h=> ?_) (fun h=> ?_)
 · have e:nbN x.j.toNat=nbN (x.j/256).toNat+1:=by
    rw [Zvh (by omega)]
    congr 2
    omega
   exact ⟨⟨x.k+1,nbN (x.j/256).toNat,[],[],0,0,0,x.j/256⟩,⟨by show 0<=x.j/256;omega,by show x.k+1+nbN (x.j/256).toNat=_;omega,rfl⟩,by show nbN (x.j/256).toNat+1<=x.r;omega,rfl,wr64 (by omega) (by omega)⟩
 · have e:x.j.toNat=0:=by omega
   rw [e,Zho] at x1
   omega
def Aint:Fr thy->Hp thy->Nat->Ann thy:=fun T h i=>{X:=DX,fr:=fun x=> [(0,.sl i 0 x.D.length 1 none),(1,T 1),(6,T 6),(30,T 30),(31,.int false .i64 x.k)],bl:=fun x=>blkA h (T 0) i Th.bys x.D,src:=fun _=> [(i,0)],md:= [bOf (T 0)],ih:=i+1,M:=i+40,meas:=fun x=>x.r}
def Z3u:Sum thy:=sumP (.cons (dInt (E:=E) .u64) .nil) (fun x=>0<=x.1/\x.1<18446744073709551616) fun x=> .int false .i64 (nbN x.1.toNat:Int)
def Fint:Fns thy:=addL (addS F0 141 Z3u) 116 9 Aint E
abbrev qBL3:=(if IntKind.signed IntKind.u64=true then (-1:Int) else IntKind.max IntKind.u64)
abbrev qBL1 (a0:Int):=(↑(nbN (Int.toNat (Zo BinOp.xor IntKind.u64 qBL3 (wr IntKind.u64 a0)))):Int)
abbrev qBL2 (a0:Int):=(↑(nbN (Int.toNat (wr IntKind.u64 a0))):Int)
abbrev qBL4 (a0:DX):=(↑(DX.k a0):Int)
abbrev qBL6:=(1:Nat)
abbrev qBL5 (a0:DX) (b0:Nat):=(List.length (DX.D a0)<=List.length (DX.D a0)/\b0<=List.length (DX.D a0)/\(List.length (DX.D a0)+qBL6)*qBL6<=(140737488355328:Nat))
abbrev qBL7 (a0:DX) (b0:DX):=((0:Nat)=(0:Nat)/\List.length (DX.D a0)+qBL6=List.length (DX.D b0)/\True)
theorem Zx0 (n:Int) (l:List Int) (len fz:Nat):Zr E Fint (vc E Fint 400) 116 (.sl 0 0 len (E.w Th.bys) none:: [.int false .i64 n]) (hp1 Th.bys l fz) 1 (appK E Th.bys l len fz (encI n))=(
 ((0:Int)<=wr IntKind.u64 n/\wr IntKind.u64 n+(1:Int)<=(18446744073709551616:Int))/\(decide (n<(0:Int))=true->((0:Int)<=Zo BinOp.xor IntKind.u64 qBL3 (wr IntKind.u64 n)/\Zo BinOp.xor IntKind.u64 qBL3 (wr IntKind.u64 n)+(1:Int)<=(18446744073709551616:Int))/\(len<=List.length l/\fz<=len/\(len+qBL6)*qBL6<=(140737488355328:Nat))/\∃(R:DX->Prop),(∃(x:DX),R x/\true=true/\(((0:Nat)=(0:Nat)/\len+qBL6=List.length (DX.D x)/\True)/\n=n/\(qBL1 n)=(qBL1 n)/\(qBL1 n)=(qBL1 n)/\(0:Int)=(qBL4 x)/\True)/\(List.take len l++ [wr IntKind.u8 (wr IntKind.i64 ((31:Int)-(qBL1 n)))]=DX.D x/\fz=fz)/\True)/\∀(x:DX),R x->(decide ((qBL4 x)<(qBL1 n))=true->(0:Int)<=wr IntKind.i64 ((8:Int)*wr IntKind.i64 (wr IntKind.i64 ((qBL1 n)-(1:Int))-(qBL4 x)))/\(qBL5 x fz)/\∃(x':DX),R x'/\x'.2+qBL6<=x.2/\true=true/\((qBL7 x x')/\n=n/\(qBL1 n)=(qBL1 n)/\(qBL1 n)=(qBL1 n)/\wr IntKind.i64 ((qBL4 x)+(1:Int))=(qBL4 x')/\True)/\(List.take (List.length (DX.D x)) (DX.D x)++ [wr IntKind.u8 (Int.fdiv (wr IntKind.u64 n) ((2:Int)^min (Int.toNat (wr IntKind.i64 ((8:Int)*wr IntKind.i64 (wr IntKind.i64 ((qBL1 n)-(1:Int))-(qBL4 x))))) (IntKind.bits IntKind.u64)))]=DX.D x'/\fz=fz)/\True)/\(decide ((qBL4 x)<(qBL1 n))=false->DX.D x=List.take len l++encI n/\List.length (DX.D x)=len+List.length (encI n)/\fz=fz))/\(decide (n<(0:Int))=false->(len<=List.length l/\fz<=len/\(len+qBL6)*qBL6<=(140737488355328:Nat))/\∃(R:DX->Prop),(∃(x:DX),R x/\true=true/\(((0:Nat)=(0:Nat)/\len+qBL6=List.length (DX.D x)/\True)/\n=n/\(qBL2 n)=(qBL2 n)/\(qBL2 n)=(qBL2 n)/\(0:Int)=(qBL4 x)/\True)/\(List.take len l++ [wr IntKind.u8 (wr IntKind.i64 ((32:Int)+(qBL2 n)))]=DX.D x/\fz=fz)/\True)/\∀(x:DX),R x->(decide ((qBL4 x)<(qBL2 n))=true->(0:Int)<=wr IntKind.i64 ((8:Int)*wr IntKind.i64 (wr IntKind.i64 ((qBL2 n)-(1:Int))-(qBL4 x)))/\(qBL5 x fz)/\∃(x':DX),R x'/\x'.2+qBL6<=x.2/\true=true/\((qBL7 x x')/\n=n/\(qBL2 n)=(qBL2 n)/\(qBL2 n)=(qBL2 n)/\wr IntKind.i64 ((qBL4 x)+(1:Int))=(qBL4 x')/\True)/\(List.take (List.length (DX.D x)) (DX.D x)++ [wr IntKind.u8 (Int.fdiv (wr IntKind.u64 n) ((2:Int)^min (Int.toNat (wr IntKind.i64 ((8:Int)*wr IntKind.i64 (wr IntKind.i64 ((qBL2 n)-(1:Int))-(qBL4 x))))) (IntKind.bits IntKind.u64)))]=DX.D x'/\fz=fz)/\True)/\(decide ((qBL4 x)<(qBL2 n))=false->DX.D x=List.take len l++encI n/\List.length (DX.D x)=len+List.length (encI n)/\fz=fz))):=by kernel_rfl
theorem Zx1:SumOk E 141 Z3u:=Yz E_ok (Zi (f:=141) rfl) fun x h=>Zu3 x.1 h.1 h.2
theorem Zu4:FnsOk E Fint:=Z3 E_ok (Zf F0_ok Zx1) _ _ _
theorem notU {u:Int} (h1:0<=u) (h2:u<18446744073709551616):Zo BinOp.xor IntKind.u64 (if IntKind.signed IntKind.u64=true then (-1:Int) else IntKind.max IntKind.u64) u=18446744073709551615-u:=by
 show IntKind.wrap .u64 (BitVec.ofInt 64 18446744073709551615^^^BitVec.ofInt 64 u).toNat=_
 have e2:BitVec.ofInt 64 18446744073709551615=BitVec.allOnes 64:=by decide
 rw [e2,BitVec.allOnes_xor,BitVec.toNat_not,BitVec.toNat_ofInt,IntKind.wrap_u64]
 omega
theorem Z1x (n:Int):AppC E 116 Th.bys 1 [.int false .i64 n] (encI n):=by
 refine Zci E_ok (Zg E_ok Zu4 400) rfl fun (l:List Int) len fz hlen hfz hbig=> ?_
 rw [Zx0];delta qBL3 qBL1 qBL2 qBL4 qBL6 qBL5 qBL7
 replace hbig:(len+(encI n).length)*1<=140737488355328:=hbig
 replace hlen:len<=l.length:=hlen
 rw [Zc0] at hbig
 have hs:=Zhp n
 have hw:=wru n
 refine ⟨⟨by omega,by omega⟩,?_⟩
 simp only [Z9,Zy,Xz,X0,X1,beq_iff_eq,bne_iff_ne,beq_eq_false_iff_ne,bne_eq_false_iff_eq,decide_eq_true_eq,decide_eq_false_iff_not,Bool.or_eq_true,Bool.or_eq_false_iff,Bool.not_eq_true',Bool.not_eq_false',Bool.and_eq_true,Bool.and_true,Bool.true_and,Bool.and_eq_false_iff,beq_self_eq_true,Z4,Yf,ne_eq,and_true,true_and,Bool.true_eq_false,Bool.false_eq_true,false_or,or_false,true_implies,Int.ofNat_eq_natCast,not_true_eq_false,not_false_eq_true,Decidable.not_not]
 refine And.intro (fun h=> ?_) (fun h=> ?_)
 · rw [notU hw.1 hw.2]
   refine ⟨by omega,?_⟩
   have hN:nbN (18446744073709551615-wr .u64 n).toNat=Wm n:=by unfold Wm;rw [if_pos h]
   have ht:wr .u8 (wr .i64 (31-(Wm n:Int)))=tagI n:=by unfold tagI;rw [if_pos h,wr64 (by omega) (by omega)];simp only [wr,IntKind.wrap_u8];omega
   rw [hN,ht]
   generalize hk:Wm n=K at*
   refine ⟨⟨by omega,by omega,by omega⟩,fun x=>∃q,q<=K/\x.k=q/\x.D=l.take len++(tagI n::(List.range q).map (intB n K))/\x.r=K-q,⟨⟨0,K,l.take len++ [tagI n],[],0,0,0,0⟩,⟨0,by omega,rfl,rfl,rfl⟩,⟨by simp;omega,rfl⟩,rfl⟩,?_⟩
   rintro x ⟨q,hq,hxk,hxD,hxr⟩
   have hxl:x.D.length=len+1+q:=by rw [hxD];simp;omega
   refine And.intro (fun h=> ?_) (fun h=> ?_)
   · have hK:q<K:=by omega
     have e3:wr .i64 (8*wr .i64 (wr .i64 ((K:Int)-1)-(x.k:Int)))=8*((K:Int)-1-(q:Int)):=by rw [wr64 (n:=(K:Int)-1) (by omega) (by omega),hxk,wr64 (n:=(K:Int)-1-q) (by omega) (by omega),wr64 (by omega) (by omega)]
     simp only [e3]
     refine ⟨by omega,⟨Nat.le_refl _,by omega,by omega⟩,⟨x.k+1,K-(q+1),x.D++ [intB n K q],[],0,0,0,0⟩,⟨q+1,by omega,by show x.k+1=q+1;omega,?_,rfl⟩,by show K-(q+1)+1<=x.r;omega,⟨by simp,wr64 (by omega) (by omega)⟩,by rw [List.take_length];simp [intB,IntKind.bits]⟩
     show x.D++_=_
     rw [List.range_succ,List.map_append,hxD];simp
   · obtain rfl:q=K:=by omega
     have e4:encI n=tagI n::(List.range q).map (intB n q):=by unfold encI;rw [hk]
     exact ⟨by rw [hxD,e4],by rw [hxl,Zc0,hk];omega⟩
 · have hN:nbN (wr .u64 n).toNat=Wm n:=by unfold Wm;rw [if_neg (by omega)]
   have ht:wr .u8 (wr .i64 (32+(Wm n:Int)))=tagI n:=by unfold tagI;rw [if_neg (by omega),wr64 (by omega) (by omega)];simp only [wr,IntKind.wrap_u8];omega
   simp only [hN,ht]
   generalize hk:Wm n=K at*
   refine ⟨⟨by omega,by omega,by omega⟩,fun x=>∃q,q<=K/\x.k=q/\x.D=l.take len++(tagI n::(List.range q).map (intB n K))/\x.r=K-q,⟨⟨0,K,l.take len++ [tagI n],[],0,0,0,0⟩,⟨0,by omega,rfl,rfl,rfl⟩,⟨by simp;omega,rfl⟩,rfl⟩,?_⟩
   rintro x ⟨q,hq,hxk,hxD,hxr⟩
   have hxl:x.D.length=len+1+q:=by rw [hxD];simp;omega
   refine And.intro (fun h=> ?_) (fun h=> ?_)
   · have hK:q<K:=by omega
     have e3:wr .i64 (8*wr .i64 (wr .i64 ((K:Int)-1)-(x.k:Int)))=8*((K:Int)-1-(q:Int)):=by rw [wr64 (n:=(K:Int)-1) (by omega) (by omega),hxk,wr64 (n:=(K:Int)-1-q) (by omega) (by omega),wr64 (by omega) (by omega)]
     simp only [e3]
     refine ⟨by omega,⟨Nat.le_refl _,by omega,by omega⟩,⟨x.k+1,K-(q+1),x.D++ [intB n K q],[],0,0,0,0⟩,⟨q+1,by omega,by show x.k+1=q+1;omega,?_,rfl⟩,by show K-(q+1)+1<=x.r;omega,⟨by simp,wr64 (by omega) (by omega)⟩,by rw [List.take_length];simp [intB,IntKind.bits]⟩
     show x.D++_=_
     rw [List.range_succ,List.map_append,hxD];simp
   · obtain rfl:q=K:=by omega
     have e4:encI n=tagI n::(List.range q).map (intB n q):=by unfold encI;rw [hk]
     exact ⟨by rw [hxD,e4],by rw [hxl,Zc0,hk];omega⟩
end
section
open Go
def dVal:DcL E (Val×Unit):= .cons (dR .vals) .nil
def Z24 (m:Nat):Sum thy:=sumP dVal (fun x=>x.1.ht<=m/\OkV x.1) fun x=> .tup [.int false .i64 (Z0 x.1).1,.bool false (Z0 x.1).2]
def Z25:Fr thy->Hp thy->Nat->Ann thy:=fun T h i=>{X:=DX,fr:=fun x=> [(2,.int false .i64 x.j),(45,T 45),(46,T 46),(47,.int false .i64 x.k)],bl:=fun x=> [],src:=fun _=> [],md:= [],ih:=i,M:=i+30,meas:=fun x=>x.r}
def Zyw (m:Nat):Fns thy:=addL (addS F0 93 (Z24 m)) 93 10 Z25 E
abbrev qBM1 (a0:Val):=(↑(List.length (Val.l a0)):Int)
abbrev qBM2 (a0:Val):=(Val.mk (Val.k a0) (Val.n a0) (Val.b a0) (Val.l a0))
abbrev qBM3:=(0:Int)
abbrev qBM4 (a0:Val):=(↑(List.length (Val.b a0)):Int)
abbrev qBM5 (a0:DX):=(↑(DX.k a0):Int)
theorem Zpn (m:Nat) (v:Val) (d:Int) (b:Bool):Zr E F0 (vc E (Zyw m) 400) 93 [.agg (encF false .vals v)] hp0 0 (fun r=>ret E (patch hp0 0 r) r.v (.tup [.int false .i64 d,.bool false b]))=(
 ((Val.k v==(1:Int))=true->(((qBM4 v)==qBM3)=true->(((qBM1 v)==qBM3)=true->qBM3=d/\true=b/\True)/\(((qBM1 v)==qBM3)=false->qBM3=d/\false=b/\True))/\(((qBM4 v)==qBM3)=false->qBM3=d/\false=b/\True))/\((Val.k v==(1:Int))=false->((Val.k v==(2:Int))=true->((Val.n v==qBM3)=true->(((qBM1 v)==qBM3)=true->qBM3=d/\true=b/\True)/\(((qBM1 v)==qBM3)=false->qBM3=d/\false=b/\True))/\((Val.n v==qBM3)=false->qBM3=d/\false=b/\True))/\((Val.k v==(2:Int))=false->((Val.k v==(3:Int))=true->∃(Q:Bool->Prop),(((Val.n v !=qBM3)=true->Q true)/\((Val.n v !=qBM3)=false->(((qBM4 v) !=qBM3)=true->Q true)/\(((qBM4 v) !=qBM3)=false->Q false)))/\(Q true->qBM3=d/\false=b/\True)/\(Q false->∃(R:DX->Prop),(∃(x:DX),R x/\true=true/\(qBM3=DX.j x/\(Val.l v=Val.l v/\(false=true->false=true))/\(qBM1 v)=(qBM1 v)/\qBM3=(qBM5 x)/\True)/\True)/\∀(x:DX),R x->(decide ((qBM5 x)<(qBM1 v))=true->qBM3<=(qBM5 x)/\(qBM5 x)+(1:Int)<=(qBM1 v)/\∀(x_1:Val),(Val.l v)[Int.toNat (qBM5 x)]? =some x_1->(Val.ht (qBM2 x_1)<=m/\OkV (qBM2 x_1))/\((!Prod.snd (Z0 (qBM2 x_1)))=true->qBM3=d/\false=b/\True)/\((!Prod.snd (Z0 (qBM2 x_1)))=false->∃(x':DX),R x'/\x'.2+(1:Nat)<=x.2/\true=true/\(mm2 true (DX.j x) (Prod.fst (Z0 (qBM2 x_1)))=DX.j x'/\(Val.l v=Val.l v/\(false=true->false=true))/\(qBM1 v)=(qBM1 v)/\wr IntKind.i64 ((qBM5 x)+(1:Int))=(qBM5 x')/\True)/\True))/\(decide ((qBM5 x)<(qBM1 v))=false->wr IntKind.i64 (DX.j x+(1:Int))=d/\true=b/\True)))/\((Val.k v==(3:Int))=false->qBM3=d/\false=b/\True)))):=by kernel_rfl
theorem len0 {α:Type} {l:List α}:((l.length:Int)=0)↔l= []:=by
 cases l
 · simp
 · simp;omega
theorem Zta : ∀ (m : Nat) (v : Val), v.ht ≤ m → OkV v → PureC E 93 [.agg (encF false .vals v)] (.tup [.int false .i64 (Z0 v).1, .bool false (Z0 v).2]) := by
 intro m
 induction m with
 | zero => intro v h; rw [Zl8] at h; omega
 | succ m ih =>
  intro v hm hv
  have hF : FnsOk E (Zyw m) := Z3 E_ok (Zf F0_ok (Yz E_ok (Zi (f := 93) rfl) fun x h => ih x.1 h.1 h.2)) _ _ _
  refine Za E_ok (Vg E_ok F0_ok fun f N c => (Zkp E_ok hF 400 f N c).1) ?_
  rw [Zpn]; delta qBM1 qBM2 qBM3 qBM4 qBM5
  simp only [Z9, Zy, Xz, X0, X1, beq_iff_eq, bne_iff_ne, beq_eq_false_iff_ne, bne_eq_false_iff_eq, decide_eq_true_eq, decide_eq_false_iff_not, Bool.or_eq_true, Bool.or_eq_false_iff, Bool.not_eq_true', Bool.not_eq_false', Bool.and_eq_true, Bool.and_true, Bool.true_and, Bool.and_eq_false_iff, beq_self_eq_true, Z4, Yf, ne_eq, and_true, true_and, Bool.true_eq_false, Bool.false_eq_true, false_or, or_false, true_implies, imp_self, Int.ofNat_eq_natCast, not_true_eq_false, not_false_eq_true, Decidable.not_not, Ue, len0]
  have hl := hv.ln
  rw [Zvj]
  refine And.intro (fun h1 => ?_) (fun h1 => And.intro (fun h2 => ?_) (fun h2 => And.intro (fun h3 => ?_) (fun h3 => ?_)))
  · rw [if_pos h1]
    refine And.intro (fun h2 => And.intro (fun h3 => ?_) (fun h3 => ?_)) (fun h2 => ?_) <;> simp [h2, *]
  · rw [if_neg h1, if_pos h2]
    refine And.intro (fun h3 => And.intro (fun h4 => ?_) (fun h4 => ?_)) (fun h3 => ?_) <;> simp [*]
  · rw [if_neg h1, if_neg h2, if_pos h3]
    refine ⟨fun b => b = true ↔ (v.n ≠ 0 ∨ v.b ≠ []), ⟨fun h => by simp [h], fun h => ⟨fun h' => by simp [h'], fun h' => by simp [h, h']⟩⟩, fun hq => ?_, fun hq => ?_⟩
    · rw [if_pos (hq.1 rfl)]; exact ⟨rfl, rfl⟩
    · rw [if_neg (fun h => by have := hq.2 h; simp at this)]
      have hbd : ∀ q, q ≤ v.l.length → 0 ≤ (v.l.take q).foldl (fun d v => max d (Z0 v).1) 0 ∧ (v.l.take q).foldl (fun d v => max d (Z0 v).1) 0 ≤ htL v.l := by
       intro q
       induction q with
       | zero => intro _; simp
       | succ q ihq =>
        intro hq
        have hx := gB9 (l := v.l) (i := q) (by omega)
        rw [Xg hx, List.foldl_append]
        have h1 := ihq (by omega)
        have h2 := Zoa _ v.l[q] (Nat.le_refl _)
        have h3 := Zn7 (List.getElem_mem (l := v.l) (n := q) (by omega))
        simp only [List.foldl_cons, List.foldl_nil]
        omega
      refine ⟨fun x => ∃ q, q ≤ v.l.length ∧ x.k = q ∧ (∀ y ∈ v.l.take q, (Z0 y).2 = true) ∧ x.j = (v.l.take q).foldl (fun d v => max d (Z0 v).1) 0 ∧ x.r = v.l.length - q, ⟨⟨0, v.l.length, [], [], 0, 0, 0, 0⟩, ⟨0, by omega, rfl, by simp, rfl, rfl⟩, rfl, rfl⟩, ?_⟩
      rintro x ⟨q, hq1, hq2, hq3, hq4, hq5⟩
      refine And.intro (fun h => ⟨by omega, by omega, fun y hy => ?_⟩) (fun h => ?_)
      · have hy : v.l[q]? = some y := by rw [← hq2]; exact hy
        have hmem : y ∈ v.l := List.mem_of_getElem? hy
        have hht : y.ht ≤ m := by have := Zn7 hmem; rw [Zl8] at hm; omega
        refine ⟨⟨hht, hv.mem hmem⟩, fun h2 => ?_, fun h2 => ?_⟩
        · rw [← List.take_append_drop q v.l, Zfw _ _ _ hq3]
          have hd : v.l.drop q = y :: v.l.drop (q + 1) := by rw [List.drop_eq_getElem_cons (by omega)]; congr 1; have := gB9 (l := v.l) (i := q) (by omega); rw [hy] at this; exact (Option.some.inj this).symm
          rw [hd, Vn, h2]
          exact ⟨rfl, rfl⟩
        · refine ⟨⟨q + 1, v.l.length - (q + 1), [], [], 0, 0, 0, max x.j (Z0 y).1⟩, ⟨q + 1, by omega, rfl, ?_, ?_, rfl⟩, by show v.l.length - (q + 1) + 1 ≤ x.r; omega, rfl, ?_⟩
          · intro z hz
            rw [Xg hy, List.mem_append] at hz
            rcases hz with hz | hz
            · exact hq3 z hz
            · rw [List.mem_singleton.1 hz]; exact h2
          · show max x.j (Z0 y).1 = _
            rw [Xg hy, List.foldl_append, ← hq4]; rfl
          · show wr .i64 ((x.k : Int) + 1) = ((q + 1 : Nat) : Int)
            rw [hq2, wr64 (by omega) (by omega)]; omega
      · obtain rfl : q = v.l.length := by omega
        rw [List.take_length] at hq3 hq4
        have hb := hbd v.l.length (Nat.le_refl _)
        rw [List.take_length, ← hq4] at hb
        have e := Zfw v.l [] 0 hq3
        rw [List.append_nil] at e
        rw [e, Vn, ← hq4]
        have hm1 : htL v.l ≤ 1000000000000 := by
         have := hv.sz
         have := Z3z v
         rw [Zl8] at this
         omega
        rw [wr64 (by omega) (by omega)]
        exact ⟨rfl, rfl⟩
  · rw [if_neg h1, if_neg h2, if_neg h3]
    exact ⟨rfl, rfl⟩
def Sint:Sum thy:=sumA E Th.bys 1 (.cons (dInt (E:=E) .i64) .nil) (fun _=>True) fun x=>encI x.1
def Sval (m:Nat):Sum thy:=sumA E Th.bys 1 dVal (fun x=>x.1.ht<=m/\OkV x.1) fun x=>encV x.1
def Abyt:Fr thy->Hp thy->Nat->Ann thy:=fun T h i=>{X:=DX,fr:=fun x=> [(0,.sl i 0 x.D.length 1 none),(23,T 23),(24,T 24),(25,.int false .i64 x.k)],bl:=fun x=>blkA h (T 0) i Th.bys x.D,src:=fun _=> [(i,0)],md:= [bOf (T 0)],ih:=i+1,M:=i+40,meas:=fun x=>x.r}
def Alis:Fr thy->Hp thy->Nat->Ann thy:=fun T h i=>{X:=DX,fr:=fun x=> [(0,.sl i 0 x.D.length 1 none),(46,T 46),(47,T 47),(48,.int false .i64 x.k)],bl:=fun x=>blkA h (T 0) i Th.bys x.D,src:=fun _=> [(i,0)],md:= [bOf (T 0)],ih:=i+1,M:=i+40,meas:=fun x=>x.r}
def Fval (m:Nat):Fns thy:=addL (addL (addS (addS F0 116 Sint) 94 (Sval m)) 94 7 Abyt E) 94 16 Alis E
abbrev qBM6 (a0:Val):=(↑(List.length (Val.b a0)):Int)
abbrev qBM7 (a0:Val):=(Val.mk (Val.k a0) (Val.n a0) (Val.b a0) (Val.l a0))
abbrev qBM8 (a0:DX):=(↑(DX.k a0):Int)
abbrev qBM9:=(140737488355328:Nat)
abbrev qBMa (a0:Val):=(↑(List.length (Val.l a0)):Int)
abbrev qBMb:=(1:Nat)
abbrev qBMc:=(false=true->false=true)
abbrev qBMd (a0:DX) (b0:Nat):=(List.length (DX.D a0)<=List.length (DX.D a0)/\b0<=List.length (DX.D a0)/\(List.length (DX.D a0)+qBMb)*qBMb<=qBM9)
abbrev qBMe (a0:DX):=(List.length (DX.D a0))
abbrev qBMf:=(0:Nat)
theorem Zwv (m:Nat) (v:Val) (l:List Int) (len fz:Nat):Zr E F0 (vc E (Fval m) 400) 94 (.sl 0 0 len (E.w Th.bys) none:: [.agg (encF false .vals v)]) (hp1 Th.bys l fz) 1 (appK E Th.bys l len fz (encV v))=(
 ((Val.k v==(1:Int))=true->True/\(len<=List.length l/\fz<=len/\(len+List.length (encI (Val.n v)))*qBMb<=qBM9)/\List.take len l++encI (Val.n v)=List.take len l++encV v/\len+List.length (encI (Val.n v))=len+List.length (encV v)/\fz=fz)/\((Val.k v==(1:Int))=false->((Val.k v==(2:Int))=true->(len<=List.length l/\fz<=len/\(len+qBMb)*qBMb<=qBM9)/\∃(R:DX->Prop),(∃(x:DX),R x/\true=true/\((qBMf=qBMf/\len+qBMb=List.length (DX.D x)/\True)/\(Val.b v=Val.b v/\qBMc)/\(qBM6 v)=(qBM6 v)/\(0:Int)=(qBM8 x)/\True)/\(List.take len l++ [(48:Int)]=DX.D x/\fz=fz)/\True)/\∀(x:DX),R x->(decide ((qBM8 x)<(qBM6 v))=true->(0:Int)<=(qBM8 x)/\(qBM8 x)+(1:Int)<=(qBM6 v)/\∀(x_1:Int),(Val.b v)[Int.toNat (qBM8 x)]? =some x_1->(qBMd x fz)/\((x_1==(0:Int))=true->(List.length (DX.D x)+qBMb<=List.length (List.take (qBMe x) (DX.D x)++ [x_1])/\fz<=List.length (DX.D x)+qBMb/\(List.length (DX.D x)+qBMb+qBMb)*qBMb<=qBM9)/\∃(x':DX),R x'/\x'.2+qBMb<=x.2/\true=true/\((qBMf=qBMf/\List.length (DX.D x)+qBMb+qBMb=List.length (DX.D x')/\True)/\(Val.b v=Val.b v/\qBMc)/\(qBM6 v)=(qBM6 v)/\wr IntKind.i64 ((qBM8 x)+(1:Int))=(qBM8 x')/\True)/\(List.take (List.length (DX.D x)+qBMb) (List.take (qBMe x) (DX.D x)++ [x_1])++ [(255:Int)]=DX.D x'/\fz=fz)/\True)/\((x_1==(0:Int))=false->∃(x':DX),R x'/\x'.2+qBMb<=x.2/\true=true/\((qBMf=qBMf/\List.length (DX.D x)+qBMb=List.length (DX.D x')/\True)/\(Val.b v=Val.b v/\qBMc)/\(qBM6 v)=(qBM6 v)/\wr IntKind.i64 ((qBM8 x)+(1:Int))=(qBM8 x')/\True)/\(List.take (qBMe x) (DX.D x)++ [x_1]=DX.D x'/\fz=fz)/\True))/\(decide ((qBM8 x)<(qBM6 v))=false->(List.length (DX.D x)<=List.length (DX.D x)/\fz<=List.length (DX.D x)/\(List.length (DX.D x)+(2:Nat))*qBMb<=qBM9)/\List.take (qBMe x) (DX.D x)++ [(0:Int),(0:Int)]=List.take len l++encV v/\List.length (DX.D x)+(2:Nat)=len+List.length (encV v)/\fz=fz))/\((Val.k v==(2:Int))=false->(len<=List.length l/\fz<=len/\(len+qBMb)*qBMb<=qBM9)/\∃(R:DX->Prop),(∃(x:DX),R x/\true=true/\((qBMf=qBMf/\len+qBMb=List.length (DX.D x)/\True)/\(Val.l v=Val.l v/\qBMc)/\(qBMa v)=(qBMa v)/\(0:Int)=(qBM8 x)/\True)/\(List.take len l++ [(64:Int)]=DX.D x/\fz=fz)/\True)/\∀(x:DX),R x->(decide ((qBM8 x)<(qBMa v))=true->(0:Int)<=(qBM8 x)/\(qBM8 x)+(1:Int)<=(qBMa v)/\∀(x_1:Val),(Val.l v)[Int.toNat (qBM8 x)]? =some x_1->(Val.ht (qBM7 x_1)<=m/\OkV (qBM7 x_1))/\(List.length (DX.D x)<=List.length (DX.D x)/\fz<=List.length (DX.D x)/\(List.length (DX.D x)+List.length (encV (qBM7 x_1)))*qBMb<=qBM9)/\∃(x':DX),R x'/\x'.2+qBMb<=x.2/\true=true/\((qBMf=qBMf/\List.length (DX.D x)+List.length (encV (qBM7 x_1))=List.length (DX.D x')/\True)/\(Val.l v=Val.l v/\qBMc)/\(qBMa v)=(qBMa v)/\wr IntKind.i64 ((qBM8 x)+(1:Int))=(qBM8 x')/\True)/\(List.take (qBMe x) (DX.D x)++encV (qBM7 x_1)=DX.D x'/\fz=fz)/\True)/\(decide ((qBM8 x)<(qBMa v))=false->(qBMd x fz)/\List.take (qBMe x) (DX.D x)++ [(0:Int)]=List.take len l++encV v/\List.length (DX.D x)+qBMb=len+List.length (encV v)/\fz=fz)))):=by kernel_rfl
theorem Zpo (v:Val) (hv:OkV v):PureC E 93 [.agg (encF false .vals v)] (.tup [.int false .i64 (Z0 v).1,.bool false (Z0 v).2]):=Zta _ v (Nat.le_refl _) hv
theorem Ztb:SumOk E 116 Sint:=Zlx E_ok (Zi (f:=116) rfl) fun x _=>Z1x x.1
theorem Z0z:∀(m:Nat) (v:Val),v.ht<=m->OkV v->AppC E 94 Th.bys 1 [.agg (encF false .vals v)] (encV v):=by
 intro m
 induction m with
 |zero=>intro v h;rw [Zl8] at h;omega
 |succ m ih=>
  intro v hm hv
  have hF:FnsOk E (Fval m):=Z3 E_ok (Z3 E_ok (Zf (Zf F0_ok Ztb) (Zlx E_ok (Zi (f:=94) rfl) fun x h=>ih x.1 h.1 h.2)) _ _ _) _ _ _
  refine Zci E_ok (Vg E_ok F0_ok fun f N c=>(Zkp E_ok hF 400 f N c).1) rfl fun (l:List Int) len fz hlen hfz hbig=> ?_
  rw [Zwv];delta qBM6 qBM7 qBM8 qBM9 qBMa qBMb qBMc qBMd qBMe qBMf
  replace hbig:(len+(encV v).length)*1<=140737488355328:=hbig
  replace hlen:len<=l.length:=hlen
  simp only [Z9,Zy,Xz,X0,X1,beq_iff_eq,bne_iff_ne,beq_eq_false_iff_ne,bne_eq_false_iff_eq,decide_eq_true_eq,decide_eq_false_iff_not,Bool.or_eq_true,Bool.or_eq_false_iff,Bool.not_eq_true',Bool.not_eq_false',Bool.and_eq_true,Bool.and_true,Bool.true_and,Bool.and_eq_false_iff,beq_self_eq_true,Z4,Yf,ne_eq,and_true,true_and,Bool.true_eq_false,Bool.false_eq_true,false_or,or_false,true_implies,imp_self,Int.ofNat_eq_natCast,not_true_eq_false,not_false_eq_true,Decidable.not_not,Ue]
  have hl:=hv.ln
  have hb:=hv.bn
  rw [Zc2] at hbig
  rw [Zc2]
  refine And.intro (fun h1=> ?_) (fun h1=>And.intro (fun h2=> ?_) (fun h2=> ?_))
  · rw [if_pos h1] at hbig
    rw [if_pos h1]
    exact ⟨⟨hlen,hfz,hbig⟩,rfl,rfl⟩
  · rw [if_neg h1,if_pos h2] at hbig
    rw [if_neg h1,if_pos h2]
    simp only [List.length_append,List.length_cons,List.length_nil] at hbig
    refine ⟨⟨hlen,hfz,by omega⟩,fun x=>∃q,q<=v.b.length/\x.k=q/\x.D=l.take len++(48::escB (v.b.take q))/\x.r=v.b.length-q,⟨⟨0,v.b.length,l.take len++ [48],[],0,0,0,0⟩,⟨0,by omega,rfl,rfl,rfl⟩,⟨by simp;omega,rfl⟩,rfl⟩,?_⟩
    rintro x ⟨q,hq1,hq2,hq3,hq4⟩
    have hesc:(escB v.b).length=(escB (v.b.take q)).length+(escB (v.b.drop q)).length:=by rw [<-List.length_append,<-Uw,List.take_append_drop]
    have hxl:x.D.length=len+1+(escB (v.b.take q)).length:=by rw [hq3];simp;omega
    refine And.intro (fun h=>⟨by omega,by omega,fun y hy=> ?_⟩) (fun h=> ?_)
    · have hy:v.b[q]? =some y:=by rw [<-hq2];exact hy
      have hd:v.b.drop q=y::v.b.drop (q+1):=by rw [List.drop_eq_getElem_cons (by omega)];congr 1;have:=gB9 (l:=v.b) (i:=q) (by omega);rw [hy] at this;exact (Option.some.inj this).symm
      rw [hd] at hesc
      have hk1:wr .i64 ((x.k:Int)+1)=((q+1:Nat):Int):=by rw [hq2,wr64 (by omega) (by omega)];omega
      refine ⟨⟨Nat.le_refl _,by omega,?_⟩,fun h0=> ?_,fun h0=> ?_⟩
      · rw [escB] at hesc;split at hesc<;>simp at hesc<;>omega
      · rw [escB,if_pos h0] at hesc
        simp only [List.length_cons] at hesc
        refine ⟨⟨by simp,by omega,by omega⟩,⟨q+1,v.b.length-(q+1),x.D++ [y,255],[],0,0,0,0⟩,⟨q+1,by omega,rfl,?_,rfl⟩,by show v.b.length-(q+1)+1<=x.r;omega,⟨by simp,hk1⟩,by rw [List.take_length,List.take_of_length_le (by simp)];simp⟩
        show x.D++ [y,255]=_
        rw [Xg hy,Uw,hq3]
        simp [escB,h0]
      · refine ⟨⟨q+1,v.b.length-(q+1),x.D++ [y],[],0,0,0,0⟩,⟨q+1,by omega,rfl,?_,rfl⟩,by show v.b.length-(q+1)+1<=x.r;omega,⟨by simp,hk1⟩,by rw [List.take_length]⟩
        show x.D++ [y]=_
        rw [Xg hy,Uw,hq3]
        simp [escB,h0]
    · obtain rfl:q=v.b.length:=by omega
      rw [List.take_length] at hq3 hxl
      refine ⟨⟨Nat.le_refl _,by omega,by omega⟩,?_,?_⟩
      · rw [List.take_length,hq3];simp
      · rw [hxl];simp;omega
  · rw [if_neg h1,if_neg h2] at hbig
    rw [if_neg h1,if_neg h2]
    simp only [List.length_append,List.length_cons,List.length_nil] at hbig
    refine ⟨⟨hlen,hfz,by omega⟩,fun x=>∃q,q<=v.l.length/\x.k=q/\x.D=l.take len++(64::encL (v.l.take q))/\x.r=v.l.length-q,⟨⟨0,v.l.length,l.take len++ [64],[],0,0,0,0⟩,⟨0,by omega,rfl,rfl,rfl⟩,⟨by simp;omega,rfl⟩,rfl⟩,?_⟩
    rintro x ⟨q,hq1,hq2,hq3,hq4⟩
    have hesc:(encL v.l).length=(encL (v.l.take q)).length+(encL (v.l.drop q)).length:=by rw [<-List.length_append,<-Zc1,List.take_append_drop]
    have hxl:x.D.length=len+1+(encL (v.l.take q)).length:=by rw [hq3];simp;omega
    refine And.intro (fun h=>⟨by omega,by omega,fun y hy=> ?_⟩) (fun h=> ?_)
    · have hy:v.l[q]? =some y:=by rw [<-hq2];exact hy
      have hmem:y∈v.l:=List.mem_of_getElem? hy
      have hd:v.l.drop q=y::v.l.drop (q+1):=by rw [List.drop_eq_getElem_cons (by omega)];congr 1;have:=gB9 (l:=v.l) (i:=q) (by omega);rw [hy] at this;exact (Option.some.inj this).symm
      rw [hd,encL,List.length_append] at hesc
      have hk1:wr .i64 ((x.k:Int)+1)=((q+1:Nat):Int):=by rw [hq2,wr64 (by omega) (by omega)];omega
      have hht:y.ht<=m:=by have:=Zn7 hmem;rw [Zl8] at hm;omega
      refine ⟨⟨hht,hv.mem hmem⟩,⟨Nat.le_refl _,by omega,by omega⟩,⟨q+1,v.l.length-(q+1),x.D++encV y,[],0,0,0,0⟩,⟨q+1,by omega,rfl,?_,rfl⟩,by show v.l.length-(q+1)+1<=x.r;omega,⟨by simp,hk1⟩,by rw [List.take_length]⟩
      show x.D++encV y=_
      rw [Xg hy,Zc1,hq3]
      simp [encL]
    · obtain rfl:q=v.l.length:=by omega
      rw [List.take_length] at hq3 hxl
      refine ⟨⟨Nat.le_refl _,by omega,by omega⟩,?_,?_⟩
      · rw [List.take_length,hq3];simp
      · rw [hxl];simp;omega
theorem Z00 (v:Val) (hv:OkV v):AppC E 94 Th.bys 1 [.agg (encF false .vals v)] (encV v):=Z0z _ v (Nat.le_refl _) hv
end
section
open Go
abbrev qBN3:=(if IntKind.signed IntKind.u64=true then (-1:Int) else IntKind.max IntKind.u64)
abbrev qBN1 (a0:Int):=(↑(nbN (Int.toNat (Zo BinOp.xor IntKind.u64 qBN3 (wr IntKind.u64 a0)))):Int)
abbrev qBN2 (a0:Int):=(↑(nbN (Int.toNat (wr IntKind.u64 a0))):Int)
abbrev qBN6:=(0:Nat)
abbrev qBN4 (a0:DX):=(List.length (DX.D a0)<=List.length (DX.D a0)/\qBN6<=List.length (DX.D a0)/\(List.length (DX.D a0)+(1:Nat))*(1:Nat)<=(140737488355328:Nat))
abbrev qBN5 (a0:DX):=(↑(DX.k a0):Int)
theorem Zvc (n:Int) (b:List Int):Zr E F0 (vc E Fint 400) 116 [.val (.slice none 0 0),.int false .i64 n] hp0 0 (fun r=>ret E (patch hp0 0 r) r.v (.psl Th.bys b false))=(
 ((0:Int)<=wr IntKind.u64 n/\wr IntKind.u64 n+(1:Int)<=(18446744073709551616:Int))/\(decide (n<(0:Int))=true->((0:Int)<=Zo BinOp.xor IntKind.u64 qBN3 (wr IntKind.u64 n)/\Zo BinOp.xor IntKind.u64 qBN3 (wr IntKind.u64 n)+(1:Int)<=(18446744073709551616:Int))/\∃(R:DX->Prop),(∃(x:DX),R x/\true=true/\((qBN6=qBN6/\(1:Nat)=List.length (DX.D x)/\True)/\n=n/\(qBN1 n)=(qBN1 n)/\(qBN1 n)=(qBN1 n)/\(0:Int)=(qBN5 x)/\True)/\([wr IntKind.u8 (wr IntKind.i64 ((31:Int)-(qBN1 n)))]=DX.D x/\qBN6=qBN6)/\True)/\∀(x:DX),R x->(decide ((qBN5 x)<(qBN1 n))=true->(0:Int)<=wr IntKind.i64 ((8:Int)*wr IntKind.i64 (wr IntKind.i64 ((qBN1 n)-(1:Int))-(qBN5 x)))/\(qBN4 x)/\∃(x':DX),R x'/\x'.2+(1:Nat)<=x.2/\true=true/\((qBN6=qBN6/\List.length (DX.D x)+(1:Nat)=List.length (DX.D x')/\True)/\n=n/\(qBN1 n)=(qBN1 n)/\(qBN1 n)=(qBN1 n)/\wr IntKind.i64 ((qBN5 x)+(1:Int))=(qBN5 x')/\True)/\(List.take (List.length (DX.D x)) (DX.D x)++ [wr IntKind.u8 (Int.fdiv (wr IntKind.u64 n) ((2:Int)^min (Int.toNat (wr IntKind.i64 ((8:Int)*wr IntKind.i64 (wr IntKind.i64 ((qBN1 n)-(1:Int))-(qBN5 x))))) (IntKind.bits IntKind.u64)))]=DX.D x'/\qBN6=qBN6)/\True)/\(decide ((qBN5 x)<(qBN1 n))=false->qBN6+List.length (DX.D x)<=List.length (DX.D x)/\List.take (List.length (DX.D x)) (DX.D x)=b))/\(decide (n<(0:Int))=false->∃(R:DX->Prop),(∃(x:DX),R x/\true=true/\((qBN6=qBN6/\(1:Nat)=List.length (DX.D x)/\True)/\n=n/\(qBN2 n)=(qBN2 n)/\(qBN2 n)=(qBN2 n)/\(0:Int)=(qBN5 x)/\True)/\([wr IntKind.u8 (wr IntKind.i64 ((32:Int)+(qBN2 n)))]=DX.D x/\qBN6=qBN6)/\True)/\∀(x:DX),R x->(decide ((qBN5 x)<(qBN2 n))=true->(0:Int)<=wr IntKind.i64 ((8:Int)*wr IntKind.i64 (wr IntKind.i64 ((qBN2 n)-(1:Int))-(qBN5 x)))/\(qBN4 x)/\∃(x':DX),R x'/\x'.2+(1:Nat)<=x.2/\true=true/\((qBN6=qBN6/\List.length (DX.D x)+(1:Nat)=List.length (DX.D x')/\True)/\n=n/\(qBN2 n)=(qBN2 n)/\(qBN2 n)=(qBN2 n)/\wr IntKind.i64 ((qBN5 x)+(1:Int))=(qBN5 x')/\True)/\(List.take (List.length (DX.D x)) (DX.D x)++ [wr IntKind.u8 (Int.fdiv (wr IntKind.u64 n) ((2:Int)^min (Int.toNat (wr IntKind.i64 ((8:Int)*wr IntKind.i64 (wr IntKind.i64 ((qBN2 n)-(1:Int))-(qBN5 x))))) (IntKind.bits IntKind.u64)))]=DX.D x'/\qBN6=qBN6)/\True)/\(decide ((qBN5 x)<(qBN2 n))=false->qBN6+List.length (DX.D x)<=List.length (DX.D x)/\List.take (List.length (DX.D x)) (DX.D x)=b))):=by kernel_rfl
theorem Z10 (n:Int):PureC E 116 [.val (.slice none 0 0),.int false .i64 n] (.psl Th.bys (encI n) false):=by
 refine Za E_ok (Vg E_ok F0_ok fun f N c=>(Zkp E_ok Zu4 400 f N c).1) ?_
 rw [Zvc];delta qBN3 qBN1 qBN2 qBN6 qBN4 qBN5
 have hs:=Zhp n
 have hw:=wru n
 refine ⟨⟨by omega,by omega⟩,?_⟩
 simp only [Z9,Zy,Xz,X0,X1,beq_iff_eq,bne_iff_ne,beq_eq_false_iff_ne,bne_eq_false_iff_eq,decide_eq_true_eq,decide_eq_false_iff_not,Bool.or_eq_true,Bool.or_eq_false_iff,Bool.not_eq_true',Bool.not_eq_false',Bool.and_eq_true,Bool.and_true,Bool.true_and,Bool.and_eq_false_iff,beq_self_eq_true,Z4,Yf,ne_eq,and_true,true_and,Bool.true_eq_false,Bool.false_eq_true,false_or,or_false,true_implies,Int.ofNat_eq_natCast,not_true_eq_false,not_false_eq_true,Decidable.not_not]
 refine And.intro (fun h=> ?_) (fun h=> ?_)
 · rw [notU hw.1 hw.2]
   refine ⟨by omega,?_⟩
   have hN:nbN (18446744073709551615-wr .u64 n).toNat=Wm n:=by unfold Wm;rw [if_pos h]
   have ht:wr .u8 (wr .i64 (31-(Wm n:Int)))=tagI n:=by unfold tagI;rw [if_pos h,wr64 (by omega) (by omega)];simp only [wr,IntKind.wrap_u8];omega
   rw [hN,ht]
   generalize hk:Wm n=K at*
   refine ⟨fun x=>∃q,q<=K/\x.k=q/\x.D=(tagI n::(List.range q).map (intB n K))/\x.r=K-q,⟨⟨0,K,[tagI n],[],0,0,0,0⟩,⟨0,by omega,rfl,rfl,rfl⟩,⟨rfl,rfl⟩,rfl⟩,?_⟩
   rintro x ⟨q,hq,hxk,hxD,hxr⟩
   have hxl:x.D.length=1+q:=by rw [hxD];simp;omega
   refine And.intro (fun h=> ?_) (fun h=> ?_)
   · have hK:q<K:=by omega
     have e3:wr .i64 (8*wr .i64 (wr .i64 ((K:Int)-1)-(x.k:Int)))=8*((K:Int)-1-(q:Int)):=by rw [wr64 (n:=(K:Int)-1) (by omega) (by omega),hxk,wr64 (n:=(K:Int)-1-q) (by omega) (by omega),wr64 (by omega) (by omega)]
     simp only [e3]
     refine ⟨by omega,⟨Nat.le_refl _,by omega,by omega⟩,⟨x.k+1,K-(q+1),x.D++ [intB n K q],[],0,0,0,0⟩,⟨q+1,by omega,by show x.k+1=q+1;omega,?_,rfl⟩,by show K-(q+1)+1<=x.r;omega,⟨by simp,wr64 (by omega) (by omega)⟩,by rw [List.take_length];simp [intB,IntKind.bits]⟩
     show x.D++_=_
     rw [List.range_succ,List.map_append,hxD];simp
   · obtain rfl:q=K:=by omega
     have e4:encI n=tagI n::(List.range q).map (intB n q):=by unfold encI;rw [hk]
     exact ⟨by omega,by rw [List.take_length,hxD,e4]⟩
 · have hN:nbN (wr .u64 n).toNat=Wm n:=by unfold Wm;rw [if_neg (by omega)]
   have ht:wr .u8 (wr .i64 (32+(Wm n:Int)))=tagI n:=by unfold tagI;rw [if_neg (by omega),wr64 (by omega) (by omega)];simp only [wr,IntKind.wrap_u8];omega
   simp only [hN,ht]
   generalize hk:Wm n=K at*
   refine ⟨fun x=>∃q,q<=K/\x.k=q/\x.D=(tagI n::(List.range q).map (intB n K))/\x.r=K-q,⟨⟨0,K,[tagI n],[],0,0,0,0⟩,⟨0,by omega,rfl,rfl,rfl⟩,⟨rfl,rfl⟩,rfl⟩,?_⟩
   rintro x ⟨q,hq,hxk,hxD,hxr⟩
   have hxl:x.D.length=1+q:=by rw [hxD];simp;omega
   refine And.intro (fun h=> ?_) (fun h=> ?_)
   · have hK:q<K:=by omega
     have e3:wr .i64 (8*wr .i64 (wr .i64 ((K:Int)-1)-(x.k:Int)))=8*((K:Int)-1-(q:Int)):=by rw [wr64 (n:=(K:Int)-1) (by omega) (by omega),hxk,wr64 (n:=(K:Int)-1-q) (by omega) (by omega),wr64 (by omega) (by omega)]
     simp only [e3]
     refine ⟨by omega,⟨Nat.le_refl _,by omega,by omega⟩,⟨x.k+1,K-(q+1),x.D++ [intB n K q],[],0,0,0,0⟩,⟨q+1,by omega,by show x.k+1=q+1;omega,?_,rfl⟩,by show K-(q+1)+1<=x.r;omega,⟨by simp,wr64 (by omega) (by omega)⟩,by rw [List.take_length];simp [intB,IntKind.bits]⟩
     show x.D++_=_
     rw [List.range_succ,List.map_append,hxD];simp
   · obtain rfl:q=K:=by omega
     have e4:encI n=tagI n::(List.range q).map (intB n q):=by unfold encI;rw [hk]
     exact ⟨by omega,by rw [List.take_length,hxD,e4]⟩
def Z11:Sum thy:=sumA E Th.bys 1 dVal (fun x=>OkV x.1) fun x=>encV x.1
theorem Zn3:SumOk E 94 Z11:=Zlx E_ok (Zi (f:=94) rfl) fun x h=>Z00 x.1 h
def Z3w:Sum thy:=sumN (.cons (dInt (E:=E) .i64) .nil) (fun _=>True) (fun x=> .psl Th.bys (encI x.1) false) Sint
theorem Zx6:SumOk E 116 Z3w:=Zup E_ok Ztb fun x _=>Z10 x.1
def Z3x:Fns thy:=addL (addL (addS (addS F0 116 Z3w) 94 Z11) 94 7 Abyt E) 94 16 Alis E
theorem Zx7:FnsOk E Z3x:=Z3 E_ok (Z3 E_ok (Zf (Zf F0_ok Zx6) Zn3) _ _ _) _ _ _
abbrev qBN7 (a0:Val):=(↑(List.length (Val.b a0)):Int)
abbrev qBN8 (a0:DX):=(↑(DX.k a0):Int)
abbrev qBN9:=(0:Nat)
abbrev qBNa (a0:Val):=(↑(List.length (Val.l a0)):Int)
abbrev qBNb:=(false=true->false=true)
abbrev qBNc (a0:Val):=(Val.mk (Val.k a0) (Val.n a0) (Val.b a0) (Val.l a0))
abbrev qBNe:=(1:Nat)
abbrev qBNi (a0:DX):=(List.length (DX.D a0)+qBNe)
abbrev qBNg:=(140737488355328:Nat)
abbrev qBNd (a0:DX):=(List.length (DX.D a0)<=List.length (DX.D a0)/\qBN9<=List.length (DX.D a0)/\(qBNi a0)*qBNe<=qBNg)
abbrev qBNf (a0:DX):=(List.length (DX.D a0))
abbrev qBNh:=(0:Int)
theorem Zvd (v:Val) (b:List Int):Zr E F0 (vc E Z3x 400) 94 [.val (.slice none 0 0),.agg (encF false .vals v)] hp0 0 (fun r=>ret E (patch hp0 0 r) r.v (.psl Th.bys b false))=(
 ((Val.k v==(1:Int))=true->True/\encI (Val.n v)=b/\qBNb)/\((Val.k v==(1:Int))=false->((Val.k v==(2:Int))=true->∃(R:DX->Prop),(∃(x:DX),R x/\true=true/\((qBN9=qBN9/\qBNe=List.length (DX.D x)/\True)/\(Val.b v=Val.b v/\qBNb)/\(qBN7 v)=(qBN7 v)/\qBNh=(qBN8 x)/\True)/\([(48:Int)]=DX.D x/\qBN9=qBN9)/\True)/\∀(x:DX),R x->(decide ((qBN8 x)<(qBN7 v))=true->qBNh<=(qBN8 x)/\(qBN8 x)+(1:Int)<=(qBN7 v)/\∀(x_1:Int),(Val.b v)[Int.toNat (qBN8 x)]? =some x_1->(qBNd x)/\((x_1==qBNh)=true->(List.length (DX.D x)+qBNe<=List.length (List.take (qBNf x) (DX.D x)++ [x_1])/\qBN9<=List.length (DX.D x)+qBNe/\(List.length (DX.D x)+qBNe+qBNe)*qBNe<=qBNg)/\∃(x':DX),R x'/\x'.2+qBNe<=x.2/\true=true/\((qBN9=qBN9/\List.length (DX.D x)+qBNe+qBNe=List.length (DX.D x')/\True)/\(Val.b v=Val.b v/\qBNb)/\(qBN7 v)=(qBN7 v)/\wr IntKind.i64 ((qBN8 x)+(1:Int))=(qBN8 x')/\True)/\(List.take (qBNi x) (List.take (qBNf x) (DX.D x)++ [x_1])++ [(255:Int)]=DX.D x'/\qBN9=qBN9)/\True)/\((x_1==qBNh)=false->∃(x':DX),R x'/\x'.2+qBNe<=x.2/\true=true/\((qBN9=qBN9/\List.length (DX.D x)+qBNe=List.length (DX.D x')/\True)/\(Val.b v=Val.b v/\qBNb)/\(qBN7 v)=(qBN7 v)/\wr IntKind.i64 ((qBN8 x)+(1:Int))=(qBN8 x')/\True)/\(List.take (qBNf x) (DX.D x)++ [x_1]=DX.D x'/\qBN9=qBN9)/\True))/\(decide ((qBN8 x)<(qBN7 v))=false->(List.length (DX.D x)<=List.length (DX.D x)/\qBN9<=List.length (DX.D x)/\(List.length (DX.D x)+(2:Nat))*qBNe<=qBNg)/\qBN9+(List.length (DX.D x)+(2:Nat))<=List.length (List.take (qBNf x) (DX.D x)++ [qBNh,qBNh])/\List.take (List.length (DX.D x)+(2:Nat)) (List.take (qBNf x) (DX.D x)++ [qBNh,qBNh])=b))/\((Val.k v==(2:Int))=false->∃(R:DX->Prop),(∃(x:DX),R x/\true=true/\((qBN9=qBN9/\qBNe=List.length (DX.D x)/\True)/\(Val.l v=Val.l v/\qBNb)/\(qBNa v)=(qBNa v)/\qBNh=(qBN8 x)/\True)/\([(64:Int)]=DX.D x/\qBN9=qBN9)/\True)/\∀(x:DX),R x->(decide ((qBN8 x)<(qBNa v))=true->qBNh<=(qBN8 x)/\(qBN8 x)+(1:Int)<=(qBNa v)/\∀(x_1:Val),(Val.l v)[Int.toNat (qBN8 x)]? =some x_1->OkV (qBNc x_1)/\(List.length (DX.D x)<=List.length (DX.D x)/\qBN9<=List.length (DX.D x)/\(List.length (DX.D x)+List.length (encV (qBNc x_1)))*qBNe<=qBNg)/\∃(x':DX),R x'/\x'.2+qBNe<=x.2/\true=true/\((qBN9=qBN9/\List.length (DX.D x)+List.length (encV (qBNc x_1))=List.length (DX.D x')/\True)/\(Val.l v=Val.l v/\qBNb)/\(qBNa v)=(qBNa v)/\wr IntKind.i64 ((qBN8 x)+(1:Int))=(qBN8 x')/\True)/\(List.take (qBNf x) (DX.D x)++encV (qBNc x_1)=DX.D x'/\qBN9=qBN9)/\True)/\(decide ((qBN8 x)<(qBNa v))=false->(qBNd x)/\qBN9+(qBNi x)<=List.length (List.take (qBNf x) (DX.D x)++ [qBNh])/\List.take (qBNi x) (List.take (qBNf x) (DX.D x)++ [qBNh])=b)))):=by kernel_rfl
theorem Z12 (v:Val) (hv:OkV v):PureC E 94 [.val (.slice none 0 0),.agg (encF false .vals v)] (.psl Th.bys (encV v) false):=by
 refine Za E_ok (Vg E_ok F0_ok fun f N c=>(Zkp E_ok Zx7 400 f N c).1) ?_
 rw [Zvd];delta qBN7 qBN8 qBN9 qBNa qBNb qBNc qBNe qBNi qBNg qBNd qBNf qBNh
 have hbig:=hv.en
 simp only [Z9,Zy,Xz,X0,X1,beq_iff_eq,bne_iff_ne,beq_eq_false_iff_ne,bne_eq_false_iff_eq,decide_eq_true_eq,decide_eq_false_iff_not,Bool.or_eq_true,Bool.or_eq_false_iff,Bool.not_eq_true',Bool.not_eq_false',Bool.and_eq_true,Bool.and_true,Bool.true_and,Bool.and_eq_false_iff,beq_self_eq_true,Z4,Yf,ne_eq,and_true,true_and,Bool.true_eq_false,Bool.false_eq_true,false_or,or_false,true_implies,imp_self,Int.ofNat_eq_natCast,not_true_eq_false,not_false_eq_true,Decidable.not_not,Ue]
 have hl:=hv.ln
 have hb:=hv.bn
 rw [Zc2] at hbig
 rw [Zc2]
 refine And.intro (fun h1=> ?_) (fun h1=>And.intro (fun h2=> ?_) (fun h2=> ?_))
 · rw [if_pos h1] at hbig
   rw [if_pos h1]
 · rw [if_neg h1,if_pos h2] at hbig
   rw [if_neg h1,if_pos h2]
   simp only [List.length_append,List.length_cons,List.length_nil] at hbig
   refine ⟨fun x=>∃q,q<=v.b.length/\x.k=q/\x.D=(48::escB (v.b.take q))/\x.r=v.b.length-q,⟨⟨0,v.b.length,[48],[],0,0,0,0⟩,⟨0,by omega,rfl,rfl,rfl⟩,⟨rfl,rfl⟩,rfl⟩,?_⟩
   rintro x ⟨q,hq1,hq2,hq3,hq4⟩
   have hesc:(escB v.b).length=(escB (v.b.take q)).length+(escB (v.b.drop q)).length:=by rw [<-List.length_append,<-Uw,List.take_append_drop]
   have hxl:x.D.length=1+(escB (v.b.take q)).length:=by rw [hq3];simp;omega
   refine And.intro (fun h=>⟨by omega,by omega,fun y hy=> ?_⟩) (fun h=> ?_)
   · have hy:v.b[q]? =some y:=by rw [<-hq2];exact hy
     have hd:v.b.drop q=y::v.b.drop (q+1):=by rw [List.drop_eq_getElem_cons (by omega)];congr 1;have:=gB9 (l:=v.b) (i:=q) (by omega);rw [hy] at this;exact (Option.some.inj this).symm
     rw [hd] at hesc
     have hk1:wr .i64 ((x.k:Int)+1)=((q+1:Nat):Int):=by rw [hq2,wr64 (by omega) (by omega)];omega
     refine ⟨⟨Nat.le_refl _,by omega,?_⟩,fun h0=> ?_,fun h0=> ?_⟩
     · rw [escB] at hesc;split at hesc<;>simp at hesc<;>omega
     · rw [escB,if_pos h0] at hesc
       simp only [List.length_cons] at hesc
       refine ⟨⟨by simp,by omega,by omega⟩,⟨q+1,v.b.length-(q+1),x.D++ [y,255],[],0,0,0,0⟩,⟨q+1,by omega,rfl,?_,rfl⟩,by show v.b.length-(q+1)+1<=x.r;omega,⟨by simp,hk1⟩,by rw [List.take_length,List.take_of_length_le (by simp)];simp⟩
       show x.D++ [y,255]=_
       rw [Xg hy,Uw,hq3]
       simp [escB,h0]
     · refine ⟨⟨q+1,v.b.length-(q+1),x.D++ [y],[],0,0,0,0⟩,⟨q+1,by omega,rfl,?_,rfl⟩,by show v.b.length-(q+1)+1<=x.r;omega,⟨by simp,hk1⟩,by rw [List.take_length]⟩
       show x.D++ [y]=_
       rw [Xg hy,Uw,hq3]
       simp [escB,h0]
   · obtain rfl:q=v.b.length:=by omega
     rw [List.take_length] at hq3 hxl
     refine ⟨⟨Nat.le_refl _,by omega,by omega⟩,by simp,?_⟩
     rw [List.take_length,hq3,List.take_of_length_le (by simp)];try simp
 · rw [if_neg h1,if_neg h2] at hbig
   rw [if_neg h1,if_neg h2]
   simp only [List.length_append,List.length_cons,List.length_nil] at hbig
   refine ⟨fun x=>∃q,q<=v.l.length/\x.k=q/\x.D=(64::encL (v.l.take q))/\x.r=v.l.length-q,⟨⟨0,v.l.length,[64],[],0,0,0,0⟩,⟨0,by omega,rfl,rfl,rfl⟩,⟨rfl,rfl⟩,rfl⟩,?_⟩
   rintro x ⟨q,hq1,hq2,hq3,hq4⟩
   have hesc:(encL v.l).length=(encL (v.l.take q)).length+(encL (v.l.drop q)).length:=by rw [<-List.length_append,<-Zc1,List.take_append_drop]
   have hxl:x.D.length=1+(encL (v.l.take q)).length:=by rw [hq3];simp;omega
   refine And.intro (fun h=>⟨by omega,by omega,fun y hy=> ?_⟩) (fun h=> ?_)
   · have hy:v.l[q]? =some y:=by rw [<-hq2];exact hy
     have hmem:y∈v.l:=List.mem_of_getElem? hy
     have hd:v.l.drop q=y::v.l.drop (q+1):=by rw [List.drop_eq_getElem_cons (by omega)];congr 1;have:=gB9 (l:=v.l) (i:=q) (by omega);rw [hy] at this;exact (Option.some.inj this).symm
     rw [hd,encL,List.length_append] at hesc
     have hk1:wr .i64 ((x.k:Int)+1)=((q+1:Nat):Int):=by rw [hq2,wr64 (by omega) (by omega)];omega
     refine ⟨hv.mem hmem,⟨Nat.le_refl _,by omega,by omega⟩,⟨q+1,v.l.length-(q+1),x.D++encV y,[],0,0,0,0⟩,⟨q+1,by omega,rfl,?_,rfl⟩,by show v.l.length-(q+1)+1<=x.r;omega,⟨by simp,hk1⟩,by rw [List.take_length]⟩
     show x.D++encV y=_
     rw [Xg hy,Zc1,hq3]
     simp [encL]
   · obtain rfl:q=v.l.length:=by omega
     rw [List.take_length] at hq3 hxl
     refine ⟨⟨Nat.le_refl _,by omega,by omega⟩,by simp,?_⟩
     rw [List.take_length,hq3,List.take_of_length_le (by simp)];try simp
def Yn (v:Val):List Int×Int:=if (Z0 v).2=false then ([],10) else if (Z0 v).1>16 then ([],2) else if (encV v).length>65536 then ([],2) else (encV v,0)
def Zve:Sum thy:=sumP dVal (fun x=>OkV x.1) fun x=> .tup [.int false .i64 (Z0 x.1).1,.bool false (Z0 x.1).2]
theorem Zqn:SumOk E 93 Zve:=Yz E_ok (Zi (f:=93) rfl) fun x h=>Zpo x.1 h
def Z3y:Sum thy:=sumN dVal (fun x=>OkV x.1) (fun x=> .psl Th.bys (encV x.1) false) Z11
theorem Zx8:SumOk E 94 Z3y:=Zup E_ok Zn3 fun x h=>Z12 x.1 h
def Fenc:Fns thy:=addS (addS F0 93 Zve) 94 Z3y
theorem Z13:FnsOk E Fenc:=Zf (Zf F0_ok Zqn) Zx8
theorem Zl5 (v:Val) (l:List Int) (e:Int):Zr E Fenc (vc E Fenc 400) 75 [.agg (encF false .vals v)] hp0 0 (fun r=>ret E (patch hp0 0 r) r.v (.tup [.psl Th.bys l false,.int false .i64 e]))=(
OkV (Val.mk (Val.k v) (Val.n v) (Val.b v) (Val.l v))/\((!Prod.snd (Z0 (Val.mk (Val.k v) (Val.n v) (Val.b v) (Val.l v))))=true->l= []/\(10:Int)=e/\True)/\((!Prod.snd (Z0 (Val.mk (Val.k v) (Val.n v) (Val.b v) (Val.l v))))=false->(decide (Prod.fst (Z0 (Val.mk (Val.k v) (Val.n v) (Val.b v) (Val.l v)))>(16:Int))=true->l= []/\(2:Int)=e/\True)/\(decide (Prod.fst (Z0 (Val.mk (Val.k v) (Val.n v) (Val.b v) (Val.l v)))>(16:Int))=false->OkV (Val.mk (Val.k v) (Val.n v) (Val.b v) (Val.l v))/\(decide ((↑(List.length (encV (Val.mk (Val.k v) (Val.n v) (Val.b v) (Val.l v)))):Int)>(65536:Int))=true->l= []/\(2:Int)=e/\True)/\(decide ((↑(List.length (encV (Val.mk (Val.k v) (Val.n v) (Val.b v) (Val.l v)))):Int)>(65536:Int))=false->(encV (Val.mk (Val.k v) (Val.n v) (Val.b v) (Val.l v))=l/\(false=true->false=true))/\(0:Int)=e/\True)))):=by kernel_rfl
theorem Zl6 (v:Val) (hv:OkV v):PureC E 75 [.agg (encF false .vals v)] (.tup [.psl Th.bys (Yn v).1 false,.int false .i64 (Yn v).2]):=by
 refine Za E_ok (Zg E_ok Z13 400) ?_
 rw [Zl5]
 simp only [Z9,Zy,Xz,X0,X1,beq_iff_eq,bne_iff_ne,beq_eq_false_iff_ne,bne_eq_false_iff_eq,decide_eq_true_eq,decide_eq_false_iff_not,Bool.or_eq_true,Bool.or_eq_false_iff,Bool.not_eq_true',Bool.not_eq_false',Bool.and_eq_true,Bool.and_true,Bool.true_and,Bool.and_eq_false_iff,beq_self_eq_true,Z4,Yf,ne_eq,and_true,true_and,Bool.true_eq_false,Bool.false_eq_true,false_or,or_false,true_implies,imp_self,Int.ofNat_eq_natCast,not_true_eq_false,not_false_eq_true,Decidable.not_not,Ue]
 refine ⟨hv,fun h=> ?_,fun h=>And.intro (fun h2=> ?_) (fun h2=>⟨hv,fun h3=> ?_,fun h3=> ?_⟩)⟩
 all_goals unfold Yn
 · rw [if_pos (by simpa using h)];exact ⟨rfl,rfl⟩
 · rw [if_neg (by simpa using h),if_pos h2];exact ⟨rfl,rfl⟩
 · rw [if_neg (by simpa using h),if_neg h2,if_pos (by omega)];exact ⟨rfl,rfl⟩
 · rw [if_neg (by simpa using h),if_neg h2,if_neg (by omega)];exact ⟨rfl,rfl⟩
end
section
open Go
end
end Go.Proofs.YtnailikggmapcaaGreatDoor
end
