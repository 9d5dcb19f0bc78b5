/- Merged texts: MnTc, MnTd, MnTe, Close, TtMade, MnTop, MnTf. -/
import Derived.Test.YthonhikjbpplnaaGreatDoorRows
import Derived.ProofKit
import Derived.OpenShut
import Derived.WalkKit
import Derived.Test.YthonhikjbpplnaaGreatDoorTie
import Derived.Test.YthonhikjbpplnaaGreatDoorCards
import Derived.Stop.Joined
import Derived.SevenTiedAt
import Derived.WideKeyElems2
import Derived.Lay
import Derived.MakeChecks
import Derived.SizedLaws
import Derived.Test.YthonhikjbpplnaaGreatDoorMd
noncomputable section
namespace Go.Proofs.YthonhikjbpplnaaGreatDoor
set_option linter.unusedVariables false
set_option linter.unusedSimpArgs false
set_option linter.unnecessarySimpa false
set_option maxRecDepth 100000
section
open Go Go.RowKit
def Hd (s:List Nat) (f:Nat):Prop:=f+3<s.length/\s[s.length-3]? =some 46/\¬(s[f]? =some 48/\f+1<s.length-3)
instance (s:List Nat) (f:Nat):Decidable (Hd s f):=by unfold Hd;infer_instance
theorem Zjg {neg:Bool} {s:List Nat} {f:Nat} (h1:(cutP (s.drop f)).2.2=true) (h2:okF neg (cutP (s.drop f)).1 (cutP (s.drop f)).2.1):
 ∃W C:List Nat,s.drop f=W++46::C/\okF neg W C/\s.length=f+W.length+3/\0<W.length/\∀i,s[f+i]? =(W++46::C)[i]? :=by
 have e:=Zn2 _ h1
 have hl:=congrArg List.length e
 rw [List.length_drop,List.length_append,List.length_cons,h2.1] at hl
 have hw:=List.length_pos_iff.2 h2.2.1
 exact ⟨_,_,e,h2,by omega,hw,fun i=>by rw [<-e,List.getElem?_drop]⟩
theorem Zjh {neg:Bool} {s:List Nat} {f:Nat} (h:¬Hd s f):Zy neg (s.drop f)=(0,4):=by
 unfold Zy
 rw [if_neg]
 rintro ⟨h1,h2⟩
 obtain ⟨W,C,e,ok,hl,hw,hi⟩:=Zjg h1 h2
 refine h ⟨by omega,?_,?_⟩
 · rw [show s.length-3=f+W.length by omega,hi,List.getElem?_append_right (Nat.le_refl _),Nat.sub_self]
   rfl
 · rintro ⟨h3,h4⟩
   have h5:=hi 0
   rw [Nat.add_zero,h3,List.getElem?_append_left hw,<-List.head?_eq_getElem?] at h5
   have:=ok.2.2.1 h5.symm
   omega
theorem Zji {neg:Bool} {s:List Nat} {f i c:Nat} (h1:f<=i) (h2:i≠s.length-3) (h3:s[i]? =some c) (h4:¬(48<=c/\c<=57)):Zy neg (s.drop f)=(0,4):=by
 unfold Zy
 rw [if_neg]
 rintro ⟨g1,g2⟩
 obtain ⟨W,C,e,ok,hl,hw,hi⟩:=Zjg g1 g2
 refine h4 (digB_all.1 ok.2.2.2.1 c ?_)
 have h5:=hi (i-f)
 rw [show f+(i-f)=i by omega,h3] at h5
 rw [List.mem_append]
 rcases Nat.lt_or_ge (i-f) W.length with h|h
 · rw [List.getElem?_append_left h] at h5
   exact .inl (List.mem_iff_getElem?.2 ⟨_,h5.symm⟩)
 · rw [List.getElem?_append_right h] at h5
   obtain ⟨m,hm⟩:∃m,i-f-W.length=m+1:=⟨i-f-W.length-1,by omega⟩
   rw [hm] at h5
   exact .inr (List.mem_iff_getElem?.2 ⟨m,h5.symm⟩)
def dgF (b:List Nat) (p j:Nat):List Nat:=(b.take j).take p++(b.take j).drop (p+1)
theorem Zjj {b:List Nat} {p j c:Nat} (h:b[j]? =some c):dgF b p (j+1)=if j=p then dgF b p j else dgF b p j++ [c]:=by
 have hj:=(gA9.1 h).1
 have hl:(b.take j).length=j:=by rw [List.length_take];omega
 unfold dgF
 rw [Yq h]
 generalize b.take j=X at hl
 by_cases h1:j=p
 · rw [if_pos h1]
   rw [List.take_append_of_le_length (by omega),List.drop_of_length_le (by rw [List.length_append,hl,h1];exact Nat.le_refl _),List.drop_of_length_le (by omega)]
 rw [if_neg h1]
 rcases Nat.lt_or_ge j p with h2|h2
 · rw [List.take_of_length_le (by rw [List.length_append,hl];show j+1<=p;omega),List.drop_of_length_le (by rw [List.length_append,hl];show j+1<=p+1;omega),List.take_of_length_le (by omega),List.drop_of_length_le (by omega)]
   simp
 · rw [List.take_append_of_le_length (by omega),List.drop_append_of_le_length (by omega),List.append_assoc]
theorem Zdg {neg:Bool} {s:List Nat} {f:Nat} (h:Hd s f) (hd:(dgF (s.drop f) (s.length-3-f) (s.length-f)).all digB=true):
 Zy neg (s.drop f)=(if neg=true/\numL (dgF (s.drop f) (s.length-3-f) (s.length-f))=0 then (0,4) else if numL (dgF (s.drop f) (s.length-3-f) (s.length-f))<=9007199254740992 then ((if neg=true then-(numL (dgF (s.drop f) (s.length-3-f) (s.length-f)):Int) else numL (dgF (s.drop f) (s.length-3-f) (s.length-f))),0) else (0,3)):=by
 obtain ⟨h1,h2,h3⟩:=h
 have hbl:(s.drop f).length=s.length-f:=List.length_drop
 have hp46:(s.drop f)[s.length-3-f]? =some 46:=by rw [List.getElem?_drop,show f+(s.length-3-f)=s.length-3 by omega,h2]
 have h0:(s.drop f)[0]? =s[f]? :=by rw [List.getElem?_drop,Nat.add_zero]
 rw [<-h0] at h3
 obtain ⟨p,hp⟩:∃p,s.length-3-f=p:=⟨_,rfl⟩
 obtain ⟨L,hL⟩:∃L,s.length-f=L:=⟨_,rfl⟩
 have hLp:L=p+3:=by omega
 have h3:(s.drop f)[0]? =some 48->p<=1:=fun k=>by
  refine Classical.byContradiction fun hc=>h3 ⟨k,by omega⟩
 have hp1:1<=p:=by omega
 rw [hp] at hp46 hd⊢
 rw [hL] at hbl hd⊢
 generalize s.drop f=b at*
 have hD:dgF b p L=b.take p++b.drop (p+1):=by
  unfold dgF
  rw [List.take_of_length_le (show b.length<=L by omega)]
 rw [hD] at hd⊢
 have hb:b=b.take p++46::b.drop (p+1):=by
  obtain ⟨g1,g2⟩:=gA9.1 hp46
  conv=>lhs;rw [<-List.take_append_drop p b,List.drop_eq_getElem_cons g1,g2]
 have hdig:=digB_all.1 hd
 have hno:46∉b.take p:=fun hm=>by
  have:=hdig 46 (List.mem_append_left _ hm)
  omega
 have hc:cutP b=(b.take p,b.drop (p+1),true):=by
  conv=>lhs;rw [hb]
  exact Zbx _ _ hno
 unfold Zy
 rw [hc]
 have hzero:numL (b.take p++b.drop (p+1))=0↔∀c∈b.take p++b.drop (p+1),c=48:=by
  constructor
  · intro h c hc
    have e:=Zuh _ hdig
    rw [h] at e
    rw [<-e] at hc
    exact Zeg _ c hc
  · exact Zf2 _
 have hbase:(b.drop (p+1)).length=2/\b.take p≠ []/\((b.take p).head? =some 48->(b.take p).length<=1):=by
  refine ⟨by rw [List.length_drop];omega,fun h=> ?_,fun h=> ?_⟩
  · have:=congrArg List.length h
    rw [List.length_take,List.length_nil] at this
    omega
  · have h5:b[0]? =some 48:=by
     rw [List.head?_eq_getElem?,List.getElem?_take,if_pos (by omega)] at h
     exact h
    have:=h3 h5
    rw [List.length_take];omega
 by_cases hz:neg=true/\numL (b.take p++b.drop (p+1))=0
 · rw [if_pos hz,if_neg]
   rintro ⟨_,ok⟩
   obtain ⟨c,hc1,hc2⟩:=ok.2.2.2.2 hz.1
   exact hc2 (hzero.1 hz.2 c hc1)
 · rw [if_neg hz,if_pos]
   refine ⟨rfl,hbase.1,hbase.2.1,hbase.2.2,hd,fun hn=> ?_⟩
   refine Classical.byContradiction fun hc=>hz ⟨hn,hzero.2 fun c hc1=>Classical.byContradiction fun hc2=>hc ⟨c,hc1,hc2⟩⟩
theorem Znj {s:List Nat} {f:Nat} {F:Int} {P:Int×Int} {FIN:RtX->Prop} (hl:s.length<=140737488355328) (hF:F=(f:Int)) (hf:f+3<s.length)
 (bad:∀i c,f<=i->i≠s.length-3->s[i]? =some c->¬(48<=c/\c<=57)->P=(0,4))
 (fin:∀x:RtX,(dgF (s.drop f) (s.length-3-f) (s.length-f)).all digB=true->x.a=((min (numL (dgF (s.drop f) (s.length-3-f) (s.length-f))) 9007199254740993:Nat):Int)->FIN x):
 ∃(R:RtX->Prop),(∃(x:RtX),R x/\true=true/\(s=s/\F=F/\(s.length:Int)-3=(s.length:Int)-3/\(0:Int)=x.a/\F=(x.k:Int)/\True)/\True)/\∀(x:RtX),R x->(decide ((x.k:Int)<(s.length:Int))=true->(((x.k:Int)==(s.length:Int)-3)=true->∃(x_1:RtX),R x_1/\x_1.4+1<=x.4/\true=true/\(s=s/\F=F/\(s.length:Int)-3=(s.length:Int)-3/\x.a=x_1.a/\wr .i64 ((x.k:Int)+1)=(x_1.k:Int)/\True)/\True)/\(((x.k:Int)==(s.length:Int)-3)=false->∃(Q:Bool->Prop),((0:Int)<=(x.k:Int)/\(x.k:Int)+1<=(s.length:Int)/\∀(x_1:Nat),s[Int.toNat (x.k:Int)]? =some x_1->(decide ((x_1:Int)<48)=true->Q true)/\(decide ((x_1:Int)<48)=false->(0:Int)<=(x.k:Int)/\(x.k:Int)+1<=(s.length:Int)/\∀(x_2:Nat),s[Int.toNat (x.k:Int)]? =some x_2->(decide ((x_2:Int)>57)=true->Q true)/\(decide ((x_2:Int)>57)=false->Q false)))/\(Q true->(0:Int)=P.1/\(4:Int)=P.2/\True)/\(Q false->(0:Int)<=(x.k:Int)/\(x.k:Int)+1<=(s.length:Int)/\∀(x_1:Nat),s[Int.toNat (x.k:Int)]? =some x_1->∃(x_2:RtX),R x_2/\x_2.4+1<=x.4/\true=true/\(s=s/\F=F/\(s.length:Int)-3=(s.length:Int)-3/\mm2 false (wr .i64 (wr .i64 (10*x.a)+wr .i64 (wr .u8 ((x_1:Int)-48)))) 9007199254740993=x_2.a/\wr .i64 ((x.k:Int)+1)=(x_2.k:Int)/\True)/\True)))/\(decide ((x.k:Int)<(s.length:Int))=false->FIN x):=by
 refine ⟨fun x=>f<=x.k/\x.k<=s.length/\(dgF (s.drop f) (s.length-3-f) (x.k-f)).all digB=true/\x.a=((min (numL (dgF (s.drop f) (s.length-3-f) (x.k-f))) 9007199254740993:Nat):Int)/\x.r=s.length-x.k,
  ⟨⟨[],0,f,s.length-f⟩,⟨Nat.le_refl _,by show f<=_;omega,?_,?_,rfl⟩,rfl,⟨rfl,rfl,rfl,rfl,hF,trivial⟩,trivial⟩,fun x hx=> ?_⟩
 · show (dgF _ _ (f-f)).all digB=true
   rw [Nat.sub_self]
   simp [dgF]
 · show (0:Int)=((min (numL (dgF _ _ (f-f))) _:Nat):Int)
   rw [Nat.sub_self]
   simp [dgF,numL]
 obtain ⟨k1,k2,hd,ha,hr⟩:=hx
 have wk:wr .i64 ((x.k:Int)+1)=(x.k:Int)+1:=wrk (by omega) (by omega)
 rw [wk]
 refine ⟨fun h1=>⟨fun h2=> ?_,fun h2=> ?_⟩,fun h1=> ?_⟩
 · have h1:=of_decide_eq_true h1
   have h2:=beq_iff_eq.1 h2
   have hlt:x.k<s.length:=by omega
   have hg:(s.drop f)[x.k-f]? =some s[x.k]:=by rw [List.getElem?_drop,show f+(x.k-f)=x.k by omega,gB9 hlt]
   have hst:=Zjj (p:=s.length-3-f) hg
   rw [if_pos (by omega),show x.k-f+1=x.k+1-f by omega] at hst
   refine ⟨⟨[],x.a,x.k+1,s.length-(x.k+1)⟩,⟨by show f<=x.k+1;omega,by show x.k+1<=_;omega,?_,?_,rfl⟩,by show s.length-(x.k+1)+1<=x.r;omega,rfl,⟨rfl,rfl,rfl,rfl,rfl,trivial⟩,trivial⟩
   · show (dgF _ _ (x.k+1-f)).all digB=true
     rw [hst];exact hd
   · show x.a=((min (numL (dgF _ _ (x.k+1-f))) _:Nat):Int)
     rw [hst];exact ha
 · have h1:=of_decide_eq_true h1
   have h2:=beq_eq_false_iff_ne.1 h2
   have hlt:x.k<s.length:=by omega
   obtain ⟨c,hc⟩:∃c,s[x.k]? =some c:=⟨_,gB9 hlt⟩
   have hg:(s.drop f)[x.k-f]? =some c:=by rw [List.getElem?_drop,show f+(x.k-f)=x.k by omega,hc]
   have hst:=Zjj (p:=s.length-3-f) hg
   rw [if_neg (by omega),show x.k-f+1=x.k+1-f by omega] at hst
   have hc':∀v,s[Int.toNat (x.k:Int)]? =some v->v=c:=by
    intro v hv
    rw [Int.toNat_natCast,hc] at hv
    cases hv;rfl
   refine ⟨fun b=>b= !digB c,⟨by omega,by omega,fun v hv=> ?_⟩,fun q=> ?_,fun q=>⟨by omega,by omega,fun v hv=> ?_⟩⟩
   · rw [hc' v hv]
     refine ⟨fun h3=> ?_,fun h3=>⟨by omega,by omega,fun v hv=> ?_⟩⟩
     · have h3:=of_decide_eq_true h3
       show true= !digB c
       unfold digB;simp;omega
     · rw [hc' v hv]
       have h3:=of_decide_eq_false h3
       refine ⟨fun h4=> ?_,fun h4=> ?_⟩
       · have h4:=of_decide_eq_true h4
         show true= !digB c
         unfold digB;simp;omega
       · have h4:=of_decide_eq_false h4
         show false= !digB c
         unfold digB;simp;omega
   · have q:digB c=false:=by simpa using q.symm
     have:=bad x.k c k1 (by omega) hc (fun h=>by unfold digB at q;simp at q;omega)
     rw [this]
     exact ⟨rfl,rfl,trivial⟩
   · rw [hc' v hv]
     have q:digB c=true:=by simpa using q.symm
     have qd:48<=c/\c<=57:=by unfold digB at q;simpa using q
     have w1:wr .u8 ((c:Int)-48)=(c:Int)-48:=by
      show IntKind.wrap .u8 _=_
      rw [IntKind.wrap_u8];omega
     have w2:wr .i64 ((c:Int)-48)=(c:Int)-48:=wrk (by omega) (by omega)
     have w3:wr .i64 (10*x.a)=10*x.a:=wrk (by omega) (by omega)
     have w4:wr .i64 (10*x.a+((c:Int)-48))=10*x.a+((c:Int)-48):=wrk (by omega) (by omega)
     rw [w1,w2,w3,w4,Ziq]
     refine ⟨⟨[],min (10*x.a+((c:Int)-48)) 9007199254740993,x.k+1,s.length-(x.k+1)⟩,⟨by show f<=x.k+1;omega,by show x.k+1<=_;omega,?_,?_,rfl⟩,by show s.length-(x.k+1)+1<=x.r;omega,rfl,⟨rfl,rfl,rfl,rfl,rfl,trivial⟩,trivial⟩
     · show (dgF _ _ (x.k+1-f)).all digB=true
       rw [hst,List.all_append,hd]
       simp [q]
     · show min (10*x.a+((c:Int)-48)) 9007199254740993=((min (numL (dgF _ _ (x.k+1-f))) _:Nat):Int)
       rw [hst,Zf1,ha]
       omega
 · have h1:=of_decide_eq_false h1
   rw [show x.k=s.length by omega] at hd ha
   exact fin x hd ha
theorem Zhw (s:List Nat) (hl:s.length<=140737488355328):PureC E 10 [.str false s] (U2 (Xx s)):=by
 refine Zb E_ok (Zc E_ok Zuv 400) ?_
 rw [Zh6]; delta qCLe qCLf qCLg qCLa qCLd qCLc qCLj qCLb qCLh qCLi
 have w3:wr .i64 ((s.length:Int)-3)=(s.length:Int)-3:=wrk (by omega) (by omega)
 rw [w3]
 have hdn:∀f,¬Hd s f->true= !decide (Hd s f):=fun f h=>by rw [decide_eq_false h];rfl
 have hdy:∀f,Hd s f->false= !decide (Hd s f):=fun f h=>by rw [decide_eq_true h];rfl
 have tn:3<=s.length->Int.toNat ((s.length:Int)-3)=s.length-3:=fun _=>by omega
 refine ⟨fun b=>b=decide (s.head? =some 45),⟨fun h=>⟨by omega,by have:=of_decide_eq_true h;omega,fun x hx=> ?_⟩,fun h=> ?_⟩,fun q=> ?_,fun q=> ?_⟩
 · have hx:s[0]? =some x:=hx
   rw [<-List.head?_eq_getElem?] at hx
   refine ⟨fun h=> ?_,fun h=> ?_⟩
   · have h:=beq_iff_eq.1 h
     have:x=45:=by omega
     show true=_
     rw [decide_eq_true (by rw [hx,this])]
   · have h:=beq_eq_false_iff_ne.1 h
     show false=_
     rw [decide_eq_false (by rw [hx];intro k;cases k;exact h rfl)]
 · have h:=of_decide_eq_false h
   have:s= []:=List.length_eq_zero_iff.1 (by omega)
   subst this
   rfl
 · have q:s.head? =some 45:=by simpa using q.symm
   have hM:Xx s=Zy true (s.drop 1):=by
    unfold Xx
    rw [if_pos q,List.drop_one]
   have hpos:0<s.length:=by
    cases s with
    |nil=>cases q
    |cons a r=>simp
   refine ⟨fun b=>b= !decide (Hd s 1),⟨fun h=>hdn 1 ?_,fun h=> ?_⟩,fun hq=> ?_,fun hq=> ?_⟩
   · have h:=of_decide_eq_true h
     rintro ⟨k,_⟩
     omega
   · have h:=of_decide_eq_false h
     rw [tn (by omega)]
     refine ⟨by omega,by omega,fun x hx=>⟨fun h2=>hdn 1 ?_,fun h2=>⟨by omega,by omega,fun y hy=>⟨fun h3=>⟨fun h4=>hdn 1 ?_,fun h4=>hdy 1 ?_⟩,fun h3=>hdy 1 ?_⟩⟩⟩⟩
     · rintro ⟨_,k,_⟩
       rw [hx] at k
       cases k
       simp at h2
     all_goals
      have hx46:x=46:=by have:=bne_eq_false_iff_eq.1 h2;omega
      have hy:s[1]? =some y:=hy
     · have h3:y=48:=by have:=beq_iff_eq.1 h3;omega
       have h4:=of_decide_eq_true h4
       rintro ⟨_,_,k⟩
       exact k ⟨by rw [hy,h3],by omega⟩
     · have h4:=of_decide_eq_false h4
       refine ⟨by omega,by rw [hx,hx46],fun k=>by omega⟩
     · have h3:=beq_eq_false_iff_ne.1 h3
       refine ⟨by omega,by rw [hx,hx46],fun k=> ?_⟩
       rw [hy] at k
       have:=Option.some.inj k.1
       omega
   · have hq:¬Hd s 1:=by simpa using hq.symm
     rw [hM,Zjh hq]
     exact ⟨rfl,rfl,trivial⟩
   · have hq:Hd s 1:=by simpa using hq.symm
     refine Znj (f:=1) hl rfl hq.1 (fun i c a1 a2 a3 a4=>by rw [hM];exact Zji a1 a2 a3 a4) fun x hd ha=> ?_
     have hg:=Zdg (neg:=true) hq hd
     rw [<-hM] at hg
     generalize numL _=N at hg ha
     rw [hg]
     refine ⟨fun b=>b=decide (x.a=0),⟨fun h=> ?_,fun h=> ?_⟩,fun k=> ?_,fun k=>⟨fun h=> ?_,fun h=> ?_⟩⟩
     · exact (decide_eq_true (beq_iff_eq.1 h)).symm
     · exact (decide_eq_false (beq_eq_false_iff_ne.1 h)).symm
     · have k:=of_decide_eq_true k.symm
       rw [if_pos ⟨rfl,by omega⟩]
       exact ⟨rfl,rfl,trivial⟩
     · have h:=of_decide_eq_true h
       rw [if_neg (by rintro ⟨_,_⟩;omega),if_neg (by omega)]
       exact ⟨rfl,rfl,trivial⟩
     · have k:=of_decide_eq_false k.symm
       have h:=of_decide_eq_false h
       have w5:wr .i64 (0-x.a)= -(N:Int):=by rw [wrk (by omega) (by omega)];omega
       rw [if_neg (by rintro ⟨_,_⟩;omega),if_pos (by omega),if_pos rfl,w5]
       exact ⟨rfl,rfl,trivial⟩
 · have q:s.head?≠some 45:=of_decide_eq_false q.symm
   have hM:Xx s=Zy false (s.drop 0):=by
    unfold Xx
    rw [if_neg q,List.drop_zero]
   refine ⟨fun b=>b= !decide (Hd s 0),⟨fun h=>hdn 0 ?_,fun h=> ?_⟩,fun hq=> ?_,fun hq=> ?_⟩
   · have h:=of_decide_eq_true h
     rintro ⟨k,_⟩
     omega
   · have h:=of_decide_eq_false h
     rw [tn (by omega)]
     refine ⟨by omega,by omega,fun x hx=>⟨fun h2=>hdn 0 ?_,fun h2=>⟨by omega,by omega,fun y hy=>⟨fun h3=>⟨fun h4=>hdn 0 ?_,fun h4=>hdy 0 ?_⟩,fun h3=>hdy 0 ?_⟩⟩⟩⟩
     · rintro ⟨_,k,_⟩
       rw [hx] at k
       cases k
       simp at h2
     all_goals
      have hx46:x=46:=by have:=bne_eq_false_iff_eq.1 h2;omega
      have hy:s[0]? =some y:=hy
     · have h3:y=48:=by have:=beq_iff_eq.1 h3;omega
       have h4:=of_decide_eq_true h4
       rintro ⟨_,_,k⟩
       exact k ⟨by rw [hy,h3],by omega⟩
     · have h4:=of_decide_eq_false h4
       refine ⟨by omega,by rw [hx,hx46],fun k=>by omega⟩
     · have h3:=beq_eq_false_iff_ne.1 h3
       refine ⟨by omega,by rw [hx,hx46],fun k=> ?_⟩
       rw [hy] at k
       have:=Option.some.inj k.1
       omega
   · have hq:¬Hd s 0:=by simpa using hq.symm
     rw [hM,Zjh hq]
     exact ⟨rfl,rfl,trivial⟩
   · have hq:Hd s 0:=by simpa using hq.symm
     refine Znj (f:=0) hl rfl hq.1 (fun i c a1 a2 a3 a4=>by rw [hM];exact Zji a1 a2 a3 a4) fun x hd ha=> ?_
     have hg:=Zdg (neg:=false) hq hd
     rw [<-hM] at hg
     generalize numL _=N at hg ha
     rw [hg]
     refine ⟨fun b=>b=false,rfl,fun k=>(by cases k),fun k=>⟨fun h=> ?_,fun h=> ?_⟩⟩
     · have h:=of_decide_eq_true h
       rw [if_neg (by rintro ⟨k,_⟩;cases k),if_neg (by omega)]
       exact ⟨rfl,rfl,trivial⟩
     · have h:=of_decide_eq_false h
       rw [if_neg (by rintro ⟨k,_⟩;cases k),if_pos (by omega),if_neg (by decide)]
       exact ⟨by show x.a=(N:Int);omega,rfl,trivial⟩
end
section
open Go Go.RowKit
theorem Zqa:∀(a b:List Int),a.length=b.length->(∀(i:Nat) (x y:Int),a[i]? =some x->b[i]? =some y->x<=y)->a.sum<=b.sum
 | [],[],_,_=>Int.le_refl _
 | [],_::_,h,_=>by cases h
 |_::_,[],h,_=>by cases h
 |x::a,y::b,h,hi=>by
  have h0:=hi 0 x y rfl rfl
  have h1:=Zqa a b (by simpa using h) fun i u v hu hv=>hi (i+1) u v hu hv
  rw [List.sum_cons,List.sum_cons]
  omega
theorem Zi3:∀(a b:List Int),a.length=b.length->(∀(i:Nat) (x y:Int),a[i]? =some x->b[i]? =some y->x<=y)->∀(i:Nat) (x y:Int),a[i]? =some x->b[i]? =some y->x<y->a.sum<b.sum
 | [],_,_,_,_,_,_,h,_,_=>by cases h
 |_::_,[],h,_,_,_,_,_,_,_=>by cases h
 |u::a,v::b,h,hi,0,x,y,h1,h2,h3=>by
  cases h1
  cases h2
  have:=Zqa a b (by simpa using h) fun i u v hu hv=>hi (i+1) u v hu hv
  rw [List.sum_cons,List.sum_cons]
  omega
 |u::a,v::b,h,hi,i+1,x,y,h1,h2,h3=>by
  have h0:=hi 0 u v rfl rfl
  have:=Zi3 a b (by simpa using h) (fun i u v hu hv=>hi (i+1) u v hu hv) i x y h1 h2 h3
  rw [List.sum_cons,List.sum_cons]
  omega
theorem Zqb:∀(l:List Int) (i:Nat) (v w:Int),l[i]? =some v->(l.set i w).sum=l.sum+(w-v)
 | [],i,v,w,h=>by cases h
 |x::r,0,v,w,h=>by
  cases h
  rw [List.set_cons_zero,List.sum_cons,List.sum_cons];omega
 |x::r,i+1,v,w,h=>by
  rw [List.set_cons_succ,List.sum_cons,List.sum_cons,Zqb r i v w h];omega
theorem Zg5 {neg:Bool} {A:Int} {ws R R':List Int} {inc inc':Nat->Bool} (hl:R.length=ws.length) (hl':R'.length=ws.length) (hs:R.sum=R'.sum)
 (h:∀(i:Nat) (w:Int),ws[i]? =some w->R[i]? =some (if neg=true then-(A*w/ws.sum+(if inc i=true then 1 else 0)) else A*w/ws.sum+(if inc i=true then 1 else 0)))
 (h':∀(i:Nat) (w:Int),ws[i]? =some w->R'[i]? =some (if neg=true then-(A*w/ws.sum+(if inc' i=true then 1 else 0)) else A*w/ws.sum+(if inc' i=true then 1 else 0)))
 (o:∀(i j:Nat) (v w:Int),ws[i]? =some v->ws[j]? =some w->inc i=true->inc j=false->A*w%ws.sum<A*v%ws.sum\/(A*v%ws.sum=A*w%ws.sum/\i<j))
 (o':∀(i j:Nat) (v w:Int),ws[i]? =some v->ws[j]? =some w->inc' i=true->inc' j=false->A*w%ws.sum<A*v%ws.sum\/(A*v%ws.sum=A*w%ws.sum/\i<j))
 (i:Nat) (v:Int) (hi:ws[i]? =some v) (h1:inc i=true) (h2:inc' i=false):False:=by
 have hsub:∀(j:Nat) (w:Int),ws[j]? =some w->inc' j=true->inc j=true:=by
  intro j w hj hj'
  cases hc:inc j with
  |true=>rfl
  |false=>
   exfalso
   have a:=o i j v w hi hj h1 hc
   have b:=o' j i w v hj hi hj' h2
   omega
 have hat:∀(k:Nat) (x y:Int),R'[k]? =some x->R[k]? =some y->(neg=true->y<=x)/\(neg=false->x<=y):=by
  intro k x y hx hy
  have hk:k<ws.length:=by rw [<-hl];exact (gA9.1 hy).1
  have e1:=h k _ (gB9 hk)
  have e2:=h' k _ (gB9 hk)
  have hsk:=hsub k _ (gB9 hk)
  rw [hy] at e1
  rw [hx] at e2
  cases e1
  cases e2
  have key:(if inc' k=true then (1:Int) else 0)<=(if inc k=true then (1:Int) else 0):=by
   cases hc:inc' k with
   |true=>rw [hsk hc];exact Int.le_refl _
   |false=>
    show (0:Int)<=_
    split<;>decide
  generalize (if inc' k=true then (1:Int) else 0)=p at key⊢
  generalize (if inc k=true then (1:Int) else 0)=q at key⊢
  cases neg with
  |true=>
   refine ⟨fun _=> ?_,fun k=>(by cases k)⟩
   show-(_+q)<= -(_+p)
   omega
  |false=>
   refine ⟨fun k=>(by cases k),fun _=> ?_⟩
   show _+p<=_+q
   omega
 have e1:=h i v hi
 have e2:=h' i v hi
 rw [h1] at e1
 rw [h2] at e2
 cases neg with
 |true=>
  have:=Zi3 R R' (by rw [hl,hl']) (fun k x y hx hy=>(hat k y x hy hx).1 rfl) i _ _ e1 e2 (by simp only [if_true,Bool.false_eq_true,if_false];omega)
  omega
 |false=>
  have:=Zi3 R' R (by rw [hl,hl']) (fun k x y hx hy=>(hat k x y hx hy).2 rfl) i _ _ e2 e1 (by simp only [if_true,Bool.false_eq_true,if_false];omega)
  omega
theorem Zmu {neg:Bool} {A:Int} {ws R R':List Int} (k:ShareOk neg A ws R) (k':ShareOk neg A ws R'):R=R':=by
 obtain ⟨hl,hs,inc,h,o⟩:=k
 obtain ⟨hl',hs',inc',h',o'⟩:=k'
 apply List.ext_getElem?
 intro i
 rcases Nat.lt_or_ge i ws.length with hi|hi
 · have hw:=gB9 hi
   rw [h i _ hw,h' i _ hw]
   have:inc i=inc' i:=by
    cases h1:inc i with
    |true=>
     cases h2:inc' i with
     |true=>rfl
     |false=>exact (Zg5 hl hl' (hs.trans hs'.symm) h h' o o' i _ hw h1 h2).elim
    |false=>
     cases h2:inc' i with
     |true=>exact (Zg5 hl' hl (hs'.trans hs.symm) h' h o' o i _ hw h2 h1).elim
     |false=>rfl
   rw [this]
 · rw [List.getElem?_eq_none (by omega),List.getElem?_eq_none (by omega)]
theorem Zqc (A S:Int):∀(k:Nat) (l:List Int),sA (mkP A S k l)=(l.map fun w=>A*w/S).sum
 |_,[]=>rfl
 |k,w::r=>by
  show sA (_::mkP A S (k+1) r)=_
  rw [Zhg,Zqc A S (k+1) r,List.map_cons,List.sum_cons]
theorem Zqd {B:Int}:∀(l:List Int),(∀x∈l,0<=x/\x<=B)->0<=l.sum/\l.sum<=B*l.length
 | [],_=>by simp
 |x::r,h=>by
  have h1:=h x (by simp)
  have h2:=Zqd r fun y hy=>h y (by simp [hy])
  rw [List.sum_cons,List.length_cons,Int.natCast_add,Int.mul_add]
  generalize B*(r.length:Int)=z at*
  omega
theorem Zqe:∀l:List Int,(l.map fun x=> -x).sum= -l.sum
 | []=>rfl
 |x::r=>by rw [List.map_cons,List.sum_cons,List.sum_cons,Zqe r];omega
theorem Zqf (f:Int->Int):∀l:List Int,(l.map fun w=>f w+1).sum=(l.map f).sum+l.length
 | []=>rfl
 |x::r=>by rw [List.map_cons,List.map_cons,List.sum_cons,List.sum_cons,Zqf f r,List.length_cons];omega
structure Giv (A S:Int) (ws L O:List Int) (b:Int) (inc:Nat->Bool):Prop where
 ll:L.length=ws.length
 lo:O.length=ws.length
 at_:∀(i:Nat) (w:Int),ws[i]? =some w->L[i]? =some (A*w/S+(if inc i=true then 1 else 0))/\O[i]? =some (if inc i=true then-1 else A*w%S)
 ord:∀(i j:Nat) (v w:Int),ws[i]? =some v->ws[j]? =some w->inc i=true->inc j=false->A*w%S<A*v%S\/(A*v%S=A*w%S/\i<j)
 sum:L.sum+b=A
 pos:0<=b
theorem Zsw {A:Int} {ws L O:List Int} {b:Int} {inc:Nat->Bool} (hA:0<=A) (hS:0<ws.sum) (G:Giv A ws.sum ws L O b inc) (hb:0<b) {j:Nat} (hj:j<ws.length)
 (best:∀(i:Nat) (x y:Int),O[i]? =some x->O[j]? =some y->x<y\/(x=y/\j<=i)):
 ∃w,ws[j]? =some w/\L[j]? =some (A*w/ws.sum)/\Giv A ws.sum ws (L.set j (A*w/ws.sum+1)) (O.set j (-1)) (b-1) (fun i=>if i=j then true else inc i):=by
 obtain ⟨ll,lo,hat,ord,hsum,hpos⟩:=G
 obtain ⟨lb0,lb1⟩:=W6 hA hS
 rw [Zqc] at lb0 lb1
 have hw:=gB9 hj
 generalize ws[j]=w at hw
 have hm:∀w:Int,0<=A*w%ws.sum:=fun w=>Int.emod_nonneg _ (by omega)
 have hnj:inc j=false:=by
  cases hc:inc j with
  |false=>rfl
  |true=>
   exfalso
   have hall:∀i,i<ws.length->inc i=true:=by
    intro i hi
    cases hi2:inc i with
    |true=>rfl
    |false=>
     exfalso
     have e1:=(hat i _ (gB9 hi)).2
     have e2:=(hat j w hw).2
     rw [hi2,if_neg (by decide)] at e1
     rw [hc,if_pos rfl] at e2
     have:=best i _ _ e1 e2
     have:=hm ws[i]
     omega
   have hL:L=ws.map fun w=>A*w/ws.sum+1:=by
    apply List.ext_getElem?
    intro i
    rcases Nat.lt_or_ge i ws.length with hi|hi
    · rw [(hat i _ (gB9 hi)).1,hall i hi,if_pos rfl,List.getElem?_map,gB9 hi]
      rfl
    · rw [List.getElem?_eq_none (by omega),List.getElem?_eq_none (by rw [List.length_map];omega)]
   rw [hL,Zqf] at hsum
   omega
 obtain ⟨a1,a2⟩:=hat j w hw
 rw [hnj,if_neg (by decide)] at a1 a2
 rw [Int.add_zero] at a1
 refine ⟨w,hw,a1,by rw [List.length_set];exact ll,by rw [List.length_set];exact lo,fun i v hi=> ?_,fun i k v u hi hk h1 h2=> ?_,?_,by omega⟩
 · by_cases hij:i=j
   · subst hij
     rw [hw] at hi
     cases hi
     rw [if_pos rfl,if_pos rfl,if_pos rfl,List.getElem?_set_self (by omega),List.getElem?_set_self (by omega)]
     exact ⟨rfl,rfl⟩
   · rw [if_neg hij,List.getElem?_set_ne (Ne.symm hij),List.getElem?_set_ne (Ne.symm hij)]
     exact hat i v hi
 · have hkj:k≠j:=by
    rintro rfl
    rw [if_pos rfl] at h2
    cases h2
   rw [if_neg hkj] at h2
   by_cases hij:i=j
   · subst hij
     rw [hw] at hi
     cases hi
     have e1:=(hat k u hk).2
     rw [h2,if_neg (by decide)] at e1
     rcases best k _ _ e1 a2 with h|⟨h,h3⟩
     · exact .inl h
     · exact .inr ⟨h.symm,by omega⟩
   · rw [if_neg hij] at h1
     exact ord i k v u hi hk h1 h2
 · rw [Zqb _ _ _ _ a1]
   omega
theorem Zsx {t:Int} {ws L O:List Int} {b:Int} {inc:Nat->Bool} (hS:0<ws.sum) (G:Giv t.natAbs ws.sum ws L O b inc) (hb:¬0<b):
 (if t<0 then L.map (fun x=> -x) else L)=outP (decide (t<0)) t.natAbs ws:=by
 obtain ⟨ll,lo,hat,ord,hsum,hpos⟩:=G
 refine Zmu ?_ (Zt7 (by omega) hS)
 by_cases ht:t<0
 · rw [if_pos ht]
   refine ⟨by rw [List.length_map];exact ll,?_,inc,fun i w hi=> ?_,ord⟩
   · rw [Zqe,if_pos (decide_eq_true ht)];omega
   · rw [List.getElem?_map,(hat i w hi).1,if_pos (decide_eq_true ht)];rfl
 · rw [if_neg ht]
   refine ⟨ll,?_,inc,fun i w hi=> ?_,ord⟩
   · rw [if_neg (by rw [decide_eq_false ht];decide)];omega
   · rw [(hat i w hi).1]
     congr 1
     exact (if_neg (by rw [decide_eq_false ht];decide)).symm
end
section
open Go Go.RowKit
theorem Zao (t:Int) (ws:List Int):Yn t ws=(if weF ws≠0 then ([],weF ws) else if inR t=false then ([],3) else (outP (decide (t<0)) t.natAbs ws,0)):=by
 unfold Yn weF
 by_cases h1:256<ws.length
 · rw [if_pos h1,if_pos h1,if_pos (by decide)]
 rw [if_neg h1,if_neg h1]
 by_cases h2:ws.all okW=false
 · rw [if_pos h2,if_pos h2,if_pos (by decide)]
 rw [if_neg h2,if_neg h2]
 by_cases h3:ws.sum=0
 · rw [if_pos h3,if_pos h3,if_pos (by decide)]
 rw [if_neg h3,if_neg h3]
 exact (if_neg (fun h=>h rfl)).symm
theorem Zhs (t:Int) (ws:List Int):PureC E 8 [.int false .i64 t,.psl .ints ws false] (.tup [.psl Th.ints (Yn t ws).1 false,.int false .i64 (Yn t ws).2]):=by
 refine Zb E_ok (Zc E_ok Zw6 400) ?_
 rw [Zh7]; delta qCLp qCLk qCLm qCLt qCLs qCLq qCLl qCLn qCLo qCLr
 rw [Zao]
 refine ⟨trivial,fun e he=>⟨fun h=> ?_,fun h=>⟨trivial,fun h2=> ?_,fun h2=> ?_⟩⟩⟩
 · have h:e≠0:=by simpa using h
   rw [if_pos (by rw [<-he];exact h)]
   exact ⟨rfl,he,trivial⟩
 all_goals
  have h:e=0:=by simpa using h
  have hw:weF ws=0:=by rw [<-he,h]
  rw [if_neg (fun k=>k hw)]
  clear he
 · have h2:inR t=false:=by simpa using h2
   rw [if_pos h2]
   exact ⟨rfl,rfl,trivial⟩
 have hin:inR t=true:=by simpa using h2
 rw [if_neg (by rw [hin];decide)]
 have hb:=inR_iff.1 hin
 obtain ⟨hall,hlen,hS,_⟩:=Zm6 hin hw
 obtain ⟨s1,s2,s3⟩:=Zar hall
 have fin:=fun (L O:List Int) (b:Int) inc=>Zsx (t:=t) (ws:=ws) (L:=L) (O:=O) (b:=b) (inc:=inc) hS
 refine ⟨⟨hall,hlen⟩,fun S hSe=>⟨by omega,fun A hA=> ?_⟩⟩
 rw [<-hA] at fin⊢
 have hA2:A<=9007199254740992:=by omega
 have hn:0<ws.length:=by
  cases ws with
  |nil=>simp at hS
  |cons a r=>simp
 have hq:∀w∈ws,0<=(A:Int)*w/S/\(A:Int)*w/S<=9007199254740992:=by
  intro w hw
  obtain ⟨v1,v2,v3⟩:=s3 w hw
  refine ⟨Int.ediv_nonneg (Int.mul_nonneg (by omega) v1) (by omega),?_⟩
  have h5:(A:Int)*w/S<=A:=Int.ediv_le_of_le_mul (by omega) (Int.mul_le_mul_of_nonneg_left (by omega) (by omega))
  omega
 refine ⟨fun x=>x.k<=ws.length/\x.r=ws.length-x.k/\x.L=(ws.take x.k).map (fun w=>(A:Int)*w/S)/\x.O=(ws.take x.k).map (fun w=>(A:Int)*w%S)/\x.b=A-((ws.take x.k).map fun w=>(A:Int)*w/S).sum,
  ⟨⟨A,0,0,ws.length,[],[]⟩,⟨Nat.zero_le _,rfl,rfl,rfl,by show (A:Int)=A-_;simp⟩,rfl,⟨rfl,⟨rfl,fun h=>h⟩,rfl,rfl,⟨rfl,rfl,trivial⟩,⟨rfl,rfl,trivial⟩,rfl,trivial⟩,rfl,rfl,trivial⟩,fun x hx=> ?_⟩
 obtain ⟨hk,hr,hL,hO,hbx⟩:=hx
 have hLl:x.L.length=x.k:=by rw [hL,List.length_map,List.length_take];omega
 have hOl:x.O.length=x.k:=by rw [hO,List.length_map,List.length_take];omega
 refine ⟨fun h1=> ?_,fun h1=> ?_⟩
 · have h1:=of_decide_eq_true h1
   refine ⟨by omega,fun A2 hA2'=>⟨by omega,by omega,fun w hw=> ?_⟩⟩
   have hA3:A2=A:=by omega
   rw [hA3]
   clear hA2' hA3 A2
   have hw:ws[x.k]? =some w:=hw
   have hwm:=List.mem_iff_getElem?.2 ⟨x.k,hw⟩
   obtain ⟨v1,v2,v3⟩:=s3 w hwm
   refine ⟨⟨by omega,by omega,v1,by omega,by omega,by omega⟩,fun y3 hy3=> ?_⟩
   subst hy3
   have hsn:=Yq hw
   have hq1:=hq w hwm
   have hsb:=Zqd ((ws.take (x.k+1)).map fun w=>(A:Int)*w/S) (B:=9007199254740992) (by
    intro y hy
    obtain ⟨v,hv,rfl⟩:=List.mem_map.1 hy
    exact hq v (List.mem_of_mem_take hv))
   have hsl:((ws.take (x.k+1)).map fun w=>(A:Int)*w/S).length<=256:=by rw [List.length_map,List.length_take];omega
   have hse:((ws.take (x.k+1)).map fun w=>(A:Int)*w/S).sum=((ws.take x.k).map fun w=>(A:Int)*w/S).sum+(A:Int)*w/S:=by
    rw [hsn,List.map_append,List.sum_append];simp
   have w1:wr .i64 (x.b-(A:Int)*w/S)=x.b-(A:Int)*w/S:=wrk (by omega) (by omega)
   have wk:wr .i64 ((x.k:Int)+1)=(x.k:Int)+1:=wrk (by omega) (by omega)
   dsimp only
   rw [w1,wk,List.take_length,List.take_length]
   refine ⟨⟨Nat.le_refl _,Nat.zero_le _,by omega⟩,⟨Nat.le_refl _,Nat.zero_le _,by omega⟩,⟨x.b-(A:Int)*w/S,0,x.k+1,ws.length-(x.k+1),x.L++ [(A:Int)*w/S],x.O++ [(A:Int)*w%S]⟩,⟨by show x.k+1<=_;omega,rfl,?_,?_,?_⟩,by show ws.length-(x.k+1)+1<=x.r;omega,rfl,⟨rfl,⟨rfl,fun h=>h⟩,rfl,rfl,⟨rfl,by simp,trivial⟩,⟨rfl,by simp,trivial⟩,rfl,trivial⟩,⟨rfl,rfl⟩,⟨rfl,rfl⟩,trivial⟩
   · show x.L++ [_]=(ws.take (x.k+1)).map _
     rw [hsn,List.map_append,hL];rfl
   · show x.O++ [_]=(ws.take (x.k+1)).map _
     rw [hsn,List.map_append,hO];rfl
   · show x.b-_=(A:Int)-_
     rw [hse];omega
 have h1:=of_decide_eq_false h1
 have hkn:x.k=ws.length:=by omega
 rw [hkn] at hLl hOl
 rw [hkn,List.take_length] at hL hO hbx
 rw [hLl,hOl]
 have hlb:=W6 (A:=(A:Int)) (ws:=ws) (by omega) hS
 rw [Zqc,<-hSe] at hlb
 have G0:Giv A ws.sum ws x.L x.O x.b (fun _=>false):=by
  rw [<-hSe]
  refine ⟨hLl,hOl,fun i w hi=> ?_,fun i j v w _ _ h=>(by cases h),by rw [hL];omega,by omega⟩
  rw [hL,hO,List.getElem?_map,List.getElem?_map,hi]
  exact ⟨by simp,by simp⟩
 refine ⟨fun y=>(∃inc,Giv A ws.sum ws y.L y.O y.b inc)/\y.r=y.b.toNat/\y.b<=256,⟨⟨x.b,0,0,x.b.toNat,x.L,x.O⟩,⟨⟨_,G0⟩,rfl,by show x.b<=256;omega⟩,rfl,⟨rfl,rfl,⟨rfl,rfl,trivial⟩,⟨rfl,rfl,trivial⟩,trivial⟩,⟨rfl,rfl⟩,⟨rfl,rfl⟩,trivial⟩,fun y hy=> ?_⟩
 obtain ⟨⟨inc,G⟩,hyr,hyb⟩:=hy
 have hyL:=G.ll
 have hyO:=G.lo
 refine ⟨fun h2=> ?_,fun h2=> ?_⟩
 · have h2:0<y.b:=of_decide_eq_true h2
   refine ⟨fun z=>z.k<=ws.length/\z.r=ws.length-z.k/\z.j<=z.k/\z.j<ws.length/\∀(i:Nat) (u v:Int),i<z.k->y.O[i]? =some u->y.O[z.j]? =some v->u<v\/(u=v/\z.j<=i),
    ⟨⟨0,0,0,ws.length,[],[]⟩,⟨Nat.zero_le _,rfl,Nat.le_refl _,hn,fun i u v h=>absurd h (Nat.not_lt_zero _)⟩,rfl,⟨rfl,rfl,⟨rfl,rfl,trivial⟩,⟨rfl,rfl,trivial⟩,rfl,rfl,trivial⟩,⟨rfl,rfl⟩,⟨rfl,rfl⟩,trivial⟩,fun z hz=> ?_⟩
   obtain ⟨z1,z2,z3,z4,z5⟩:=hz
   have wk:wr .i64 ((z.k:Int)+1)=(z.k:Int)+1:=wrk (by omega) (by omega)
   rw [wk]
   refine ⟨fun h3=> ?_,fun h3=> ?_⟩
   · have h3:=of_decide_eq_true h3
     refine ⟨⟨by omega,by omega⟩,by omega,fun u hu=>⟨⟨by omega,by omega⟩,by omega,fun v hv=>⟨fun h4=> ?_,fun h4=> ?_⟩⟩⟩
     all_goals
      rw [Int.toNat_natCast,Nat.zero_add] at hu hv
     · have h4:=of_decide_eq_true h4
       refine ⟨⟨0,z.k,z.k+1,ws.length-(z.k+1),[],[]⟩,⟨by show z.k+1<=_;omega,rfl,by show z.k<=z.k+1;omega,by show z.k<_;omega,?_⟩,by show ws.length-(z.k+1)+1<=z.r;omega,rfl,⟨rfl,rfl,⟨rfl,rfl,trivial⟩,⟨rfl,rfl,trivial⟩,rfl,rfl,trivial⟩,⟨rfl,rfl⟩,⟨rfl,rfl⟩,trivial⟩
       intro i p q hi hp hq2
       have hi:i<z.k+1:=hi
       have hq2:y.O[z.k]? =some q:=hq2
       show p<q\/(p=q/\z.k<=i)
       rw [hu] at hq2
       cases hq2
       by_cases hik:i=z.k
       · subst hik
         rw [hu] at hp
         cases hp
         exact .inr ⟨rfl,Nat.le_refl _⟩
       · have:=z5 i p v (by omega) hp hv
         omega
     · have h4:=of_decide_eq_false h4
       refine ⟨⟨0,z.j,z.k+1,ws.length-(z.k+1),[],[]⟩,⟨by show z.k+1<=_;omega,rfl,by show z.j<=z.k+1;omega,z4,?_⟩,by show ws.length-(z.k+1)+1<=z.r;omega,rfl,⟨rfl,rfl,⟨rfl,rfl,trivial⟩,⟨rfl,rfl,trivial⟩,rfl,rfl,trivial⟩,⟨rfl,rfl⟩,⟨rfl,rfl⟩,trivial⟩
       intro i p q hi hp hq2
       have hi:i<z.k+1:=hi
       have hq2:y.O[z.j]? =some q:=hq2
       show p<q\/(p=q/\z.j<=i)
       rw [hv] at hq2
       cases hq2
       by_cases hik:i=z.k
       · subst hik
         rw [hu] at hp
         cases hp
         omega
       · exact z5 i p v (by omega) hp hv
   · have h3:=of_decide_eq_false h3
     have hzk:z.k=ws.length:=by omega
     obtain ⟨w,hw,hLj,G2⟩:=Zsw (by omega) hS G h2 z4 (fun i u v hu hv=>z5 i u v (by rw [hzk,<-hyO];exact (gA9.1 hu).1) hu hv)
     have hq1:=hq w (List.mem_iff_getElem?.2 ⟨_,hw⟩)
     rw [hSe] at hq1
     rw [Int.toNat_natCast,Nat.zero_add]
     refine ⟨⟨by omega,by omega⟩,by omega,fun u hu=>⟨⟨by omega,by omega⟩,Nat.zero_le _,by omega,fun _ _=>⟨⟨by omega,by omega⟩,Nat.zero_le _,by omega,fun _ _=> ?_⟩⟩⟩
     rw [hLj] at hu
     cases hu
     have w1:wr .i64 ((A:Int)*w/ws.sum+1)=(A:Int)*w/ws.sum+1:=wrk (by omega) (by omega)
     have w2:wr .i64 (y.b-1)=y.b-1:=wrk (by omega) (by omega)
     rw [w1,w2]
     exact ⟨⟨y.b-1,0,0,(y.b-1).toNat,_,_⟩,⟨⟨_,G2⟩,rfl,by show y.b-1<=256;omega⟩,by show (y.b-1).toNat+1<=y.r;omega,rfl,⟨rfl,rfl,⟨rfl,rfl,trivial⟩,⟨rfl,rfl,trivial⟩,trivial⟩,⟨rfl,rfl⟩,⟨rfl,rfl⟩,trivial⟩
 · have h2:¬0<y.b:=of_decide_eq_false h2
   have hfin:=fin _ _ _ _ G h2
   have hLb:∀(i:Nat) (v:Int),y.L[i]? =some v->0<=v/\v<=9007199254740993:=by
    intro i v hv
    have hi:i<ws.length:=by rw [<-hyL];exact (gA9.1 hv).1
    have e:=(G.at_ i _ (gB9 hi)).1
    rw [hv] at e
    have e:=Option.some.inj e
    have:=hq _ (List.getElem_mem hi)
    rw [hSe] at this
    split at e<;>omega
   refine ⟨fun h3=> ?_,fun h3=> ?_⟩
   · have h3:=of_decide_eq_true h3
     rw [if_pos h3] at hfin
     refine ⟨fun z=>z.k<=ws.length/\z.r=ws.length-z.k/\z.L=(y.L.take z.k).map (fun x=> -x)++y.L.drop z.k,⟨⟨0,0,0,ws.length,y.L,[]⟩,⟨Nat.zero_le _,rfl,rfl⟩,rfl,⟨⟨rfl,rfl,trivial⟩,rfl,trivial⟩,⟨rfl,rfl⟩,trivial⟩,fun z hz=> ?_⟩
     obtain ⟨z1,z2,z3⟩:=hz
     have hzl:z.L.length=ws.length:=by rw [z3,List.length_append,List.length_map,List.length_take,List.length_drop];omega
     have htl:((y.L.take z.k).map (fun x=> -x)).length=z.k:=by rw [List.length_map,List.length_take];omega
     have wk:wr .i64 ((z.k:Int)+1)=(z.k:Int)+1:=wrk (by omega) (by omega)
     rw [wk]
     refine ⟨fun h4=> ?_,fun h4=> ?_⟩
     · have h4:=of_decide_eq_true h4
       have hlt:z.k<y.L.length:=by omega
       rw [Int.toNat_natCast,Nat.zero_add]
       refine ⟨⟨by omega,by omega⟩,by omega,fun u hu=>⟨⟨by omega,by omega⟩,Nat.zero_le _,by omega,fun _ _=> ?_⟩⟩
       have hyk:y.L[z.k]? =some u:=by
        rw [z3,List.getElem?_append_right (by omega),htl,Nat.sub_self,List.getElem?_drop,Nat.add_zero] at hu
        exact hu
       have hu2:=hLb _ _ hyk
       have w1:wr .i64 (0-u)= -u:=by rw [wrk (by omega) (by omega)];omega
       rw [w1]
       refine ⟨⟨0,0,z.k+1,ws.length-(z.k+1),z.L.set z.k (-u),[]⟩,⟨by show z.k+1<=_;omega,rfl,?_⟩,by show ws.length-(z.k+1)+1<=z.r;omega,rfl,⟨⟨rfl,rfl,trivial⟩,rfl,trivial⟩,⟨rfl,rfl⟩,trivial⟩
       show z.L.set z.k (-u)=(y.L.take (z.k+1)).map (fun x=> -x)++y.L.drop (z.k+1)
       obtain ⟨g1,g2⟩:=gA9.1 hyk
       rw [z3,Yq hyk,List.map_append,List.set_append_right _ _ (by omega),htl,Nat.sub_self,List.drop_eq_getElem_cons g1,List.set_cons_zero,List.append_assoc]
       rfl
     · have h4:=of_decide_eq_false h4
       have hzk:z.k=y.L.length:=by omega
       rw [hzk,List.take_length,List.drop_length,List.append_nil,hfin] at z3
       refine ⟨⟨by omega,?_⟩,rfl,trivial⟩
       rw [List.take_of_length_le (by omega),z3]
   · have h3:=of_decide_eq_false h3
     rw [if_neg h3] at hfin
     refine ⟨⟨by omega,?_⟩,rfl,trivial⟩
     rw [List.take_of_length_le (by omega),hfin]
def Zwi:Sum thy:=Zfy E gthI 4 (.cons dN (.cons Zij .nil)) (fun _=>True) (fun x=>Yn x.1 x.2.1) fun y=> .tup [.psl Th.ints y.1 false,.int false .i64 y.2]
def Zwj:Sum thy:=Zfy E gthI 4 (.cons Zij (.cons Zij .nil)) (fun x=>x.1.length<=1000000) (fun x=>decide (x.1=x.2.1)) fun y=> .bool false y
def Zwk:Sum thy:=Xe (dA1 dN) (fun x=> -9223372036854775808<=x.1/\x.1<=9223372036854775807) (fun x=>Zeh x.1) fun y=> .str false y
def Zwl:Sum thy:=Xe (dA1 dS) (fun x=>x.1.length<=140737488355328) (fun x=>Xx x.1) U2
def Zwm:Sum thy:=Xe (.cons dI (.cons dI (dL3 dI dI dI))) (fun _=>True) (fun x=>Wi x.1 x.2.1 x.2.2.1 x.2.2.2.1 x.2.2.2.2.1) U2
theorem Zq2:SumOk E 8 Zwi:=W7 E_ok (Zg (f:=8) rfl) fun x _=>Zhs x.1 x.2.1
theorem Zq3:SumOk E 13 Zwj:=W7 E_ok (Zg (f:=13) rfl) fun x h=>Zll x.1 x.2.1 h
theorem Zq4:SumOk E 15 Zwk:=Zq E_ok (Zg (f:=15) rfl) fun x h=>Zlm x.1 h.1 h.2
theorem Zq5:SumOk E 10 Zwl:=Zq E_ok (Zg (f:=10) rfl) fun x h=>Zhw x.1 h
theorem Zq6:SumOk E 12 Zwm:=Zq E_ok (Zg (f:=12) rfl) fun x _=>Zh0 x.1 x.2.1 x.2.2.1 x.2.2.2.1 x.2.2.2.2.1
def Fpm:Fns thy:=addS (addS (addS (addS (addS (addS (addS (addS F9 7 SshM) 14 Zta) 9 Zni) 8 Zwi) 13 Zwj) 15 Zwk) 10 Zwl) 12 Zwm
theorem Zwn:FnsOk E Fpm:=Zh (Zh (Zh (Zh (Zh (Zh (Zh (Zh Uh Zuc) Znh) Zlf) Zq2) Zq3) Zq4) Zq5) Zq6
theorem Zlb (t:Int) (ws:List Int) (s:List Nat) (w0 w1 w2 w3 w4:Int) (b:Bool):Zu E Fpm (vc E Fpm 400) 3 [.int false .i64 t,.psl .ints ws false,.str false s,.agg [.int false .i64 w0,.int false .i64 w1,.int false .i64 w2,.int false .i64 w3,.int false .i64 w4]] hp0 0 (fun r=>ret E (patch hp0 0 r) r.v (.bool false b))=(
True/\((!true)=true->false=b)/\((!true)=false->(decide ((↑(List.length ws):Int)>(300:Int))=true->true=b)/\(decide ((↑(List.length ws):Int)>(300:Int))=false->True/\∀(y:List Int×Int),y=Yn t ws->True/\∀(y_1:List Int×Int),y_1=Yn t ws->List.length s<=(140737488355328:Nat)/\∀(y_2:Int×Int),y_2=Xx s->List.length s<=(140737488355328:Nat)/\∀(y_3:Int×Int),y_3=Xx s->True/\∀(y_4:Int×Int),y_4=Wi w0 w1 w2 w3 w4->True/\∀(y_5:Int×Int),y_5=Wi w0 w1 w2 w3 w4->List.length (Prod.fst y)<=(1000000:Nat)/\∀(y_6:Bool),y_6=decide (Prod.fst y=Prod.fst y_1)->(y_6=true->((Prod.snd y==Prod.snd y_1)=true->((Prod.fst y_2==Prod.fst y_3)=true->((Prod.snd y_2==Prod.snd y_3)=true->((Prod.fst y_4==Prod.fst y_5)=true->((Prod.snd y_4==Prod.snd y_5)=true->((-9223372036854775808:Int)<=t/\t<=(9223372036854775807:Int))/\∀(y:List Nat),y=Zeh t->((-9223372036854775808:Int)<=t/\t<=(9223372036854775807:Int))/\∀(y_7:List Nat),y_7=Zeh t->((y==y_7)=true->true=b)/\((y==y_7)=false->false=b))/\((Prod.snd y_4==Prod.snd y_5)=false->false=b))/\((Prod.fst y_4==Prod.fst y_5)=false->false=b))/\((Prod.snd y_2==Prod.snd y_3)=false->false=b))/\((Prod.fst y_2==Prod.fst y_3)=false->false=b))/\((Prod.snd y==Prod.snd y_1)=false->false=b))/\(y_6=false->false=b)))):=by kernel_rfl
end
section
open Go.ChangeShapes Go.WideShapes Go.ChangeAt Go.RowKit
theorem Tryz.own:ownKnob Tryz.prog.godebug=none:=by kernel_rfl
theorem Tryz.laidOut:laidOutB Tryz.prog=true:=by kernel_rfl
section
variable {H:Type} {enc:TypeId × Value->H} {P:Program}
theorem Zei (hl:laidOutB P=true) {W W':World} {sp':Nat->Bool}:∀{ts:List TypeId} {vs:List Value} {ds:List (DataW H)} {ps:List MemPlace},(ts.all fun t=>P.readableRec t&&decide (t<P.types.size))=true->
 DataW.TrodAll enc P W 0 (fun _=>true) true ts vs ds ps->(∀x∈ps,W.sameAt W' x)->(∀x∈ps,sp' x.block=true)->DataW.TrodAll enc P W' 0 sp' true ts vs ds ps:=by
 intro ts
 induction ts with
 |nil=>
  intro vs ds ps _ h _ _
  obtain ⟨rfl,rfl,rfl⟩:=trodAll_nil h
  rfl
 |cons t ts ih=>
  intro vs ds ps ht h hs hp
  obtain ⟨v,vs',d,ds',p,q,rfl,rfl,rfl,hd,hr⟩:=trodAll_cons h
  simp only [List.all_cons,Bool.and_eq_true,decide_eq_true_eq] at ht
  exact ⟨p,q,WideElems.Trod_stays hl ht.1.1 ht.1.2 hd (fun x hx=>hs x (by simp [hx])) (fun x hx=>hp x (by simp [hx])),
   ih (by simpa using ht.2) hr (fun x hx=>hs x (by simp [hx])) (fun x hx=>hp x (by simp [hx])),rfl⟩
theorem Zoe {f:Func} {s:ChangeSpec} {handsOn again:Bool} {W W':World} {args:Array Value} {ds gs:List (DataW H)} {before:List MemPlace} {tb:TypeId} (hl:laidOutB P=true) (hr:f.resultTypes= #[tb]) (hb:P.underlying tb=some .bool)
 (hp:(f.params.toList.all fun t=>P.readableRec t&&decide (t<P.types.size))=true) (hv:s.vars= []) (hW:DataW.Whole enc P f.params.toList s.vars false W args.toList ds gs before)
 (hres:(s.fn H (ds++gs)).results= [.lit (.bool true)]) (harg:(s.fn H (ds++gs)).args=ds) (hvar:(s.fn H (ds++gs)).vars= []) (hx:Ext W W'):
 s.post enc P f false true handsOn again W args (.bool true) W':=by
 have hbel:Below W.heap.size W W':=hx
 have hlt:∀p∈before,p.block<W.heap.size:=fun p hp=>hW.lt p hp
 have hW':=hW
 obtain ⟨pa,pv,hA,hV,hbe,hz,hn⟩:=hW
 rw [hv] at hV
 obtain ⟨hg,hpv⟩:=trodVars_none hV
 subst hpv
 rw [List.append_nil] at hbe
 subst hbe
 have hargs:∀sp:Nat->Bool,(∀p∈before,sp p.block=true)->DataW.TrodAll enc P W' 0 sp true f.params.toList args.toList (s.fn H (ds++gs)).args before:=fun sp h=>by
  rw [harg]
  exact Zei hl hp hA (fun x hx=>hbel.same (hlt x hx)) h
 have hvars:∀sp:Nat->Bool,DataW.TrodVars enc P W' sp s.vars (s.fn H (ds++gs)).vars []:=fun sp=>by rw [hv,hvar];rfl
 have hrs:∀(b:Nat) (sp:Nat->Bool) (hd:Bool),DataW.TrodAll enc P W' b sp hd f.resultTypes.toList ((Value.bool true).resultList f.resultTypes.size) (s.fn H (ds++gs)).results []:=fun b sp hd=>by
  rw [hr,hres]
  exact ⟨[],[],shut_bool hb true,rfl,rfl⟩
 refine ⟨ds,gs,before,[],before,[],hW',hrs _ _ _,hargs _ (fun p hp=>by simpa using hlt p hp),hvars _,World.keptBut_mono (fun p hp=>⟨hp,?_⟩) (hbel.frame (· ∈before)),fun _=> ?_⟩
 · simpa using hp
 · refine ⟨?_,_,_,([]++before)++ [],⟨[]++before,[],trodAll_append (hargs _ (fun _ _=>rfl)) (hrs _ _ _),hvars _,rfl,?_,?_⟩,?_⟩
   · intro j t r hj hrj
     rw [hr] at hj hrj
     match j,hj,hrj with
     |0,hj,hrj=>
      obtain rfl:tb=t:=by simpa using hj
      obtain rfl:Value.bool true=r:=by simpa [Value.resultList] using hrj
      exact okWide_bool_mk hb true
     |j+1,hj,hrj=>simp at hj
   · intro b off hp
     have hin:MemPlace.cell b off∈before:=by simpa using hp
     rw [hbel.frozen (hlt _ hin)]
     exact hz b off hin
   · intro ha;cases ha
   · intro p hp _
     simpa using hp
end
end
section
open Go
theorem Zh9 {info:TypeId->Option TypeInfo} {fs:Array Field} {i:TypeInfo} (h:Made.reckonStruct info fs=some i):∃out,i.desc= .struct out:=by
 unfold Made.reckonStruct at h
 obtain ⟨r,_,h⟩:=gD9.1 h
 revert h
 dsimp only
 split<;>(intro h;cases h;exact ⟨_,rfl⟩)
def Zoi:TypeDesc->Prop
 | .named _ _=>False
 | .pointer _=>False
 | .bool=>False
 | .int _=>False
 | .float _=>False
 | .string=>False
 |_=>True
theorem Zia {info:TypeId->Option TypeInfo} {d:TypeDesc} {i:TypeInfo} (h:Made.reckon info d=some i):
 (∃e ie,i.desc= .pointer e/\info e=some ie/\∀n t,ie.desc≠ .named n t)\/Zoi i.desc:=by
 unfold Made.reckon at h
 cases d
 case pointer e=>
  dsimp only at h
  obtain ⟨ie,h1,h⟩:=gD9.1 h
  left
  have hn:∀n t,ie.desc≠ .named n t:=by
   intro n t e1
   rw [e1] at h
   cases h
  refine ⟨e,ie,?_,h1,hn⟩
  split at h
  · cases h
  · split at h
    · cases h
    · obtain ⟨s,_,h⟩:=gD9.1 h
      cases h;rfl
  · obtain ⟨s,_,h⟩:=gD9.1 h
    cases h;rfl
 case slice e=>
  obtain ⟨ie,_,h⟩:=gD9.1 h
  obtain ⟨s,_,h⟩:=gD9.1 h
  cases h;right;trivial
 case map k e=>
  obtain ⟨ie,_,h⟩:=gD9.1 h
  obtain ⟨s,_,h⟩:=gD9.1 h
  obtain ⟨s,_,h⟩:=gD9.1 h
  obtain ⟨s,_,h⟩:=gD9.1 h
  cases h;right;trivial
 case chan k e=>
  obtain ⟨ie,_,h⟩:=gD9.1 h
  obtain ⟨s,_,h⟩:=gD9.1 h
  cases h;right;trivial
 case func ps rs v=>
  obtain ⟨s,_,h⟩:=gD9.1 h
  cases h;right;trivial
 case array n e=>
  obtain ⟨ie,_,h⟩:=gD9.1 h
  obtain ⟨s,_,h⟩:=gD9.1 h
  cases h;right;trivial
 case struct fs=>
  obtain ⟨out,ho⟩:=Zh9 h
  right;rw [ho];trivial
 all_goals cases h
theorem Zgd {P:Program} {u:TypeId} (hu:¬u<P.types.size) {i:TypeInfo} (h:P.info? u=some i):(∃e ie f,i.desc= .pointer e/\Made.infoAt P.toTables (f+1) e=some ie/\∀n t,ie.desc≠ .named n t)\/Zoi i.desc:=by
 unfold Tables.info? at h
 rw [if_neg hu] at h
 have h:(if u<P.types.size then P.types[u]? else (Made.decode (u-P.types.size)).bind (Made.reckon (Made.infoAt P.toTables 99)))=some i:=h
 rw [if_neg hu] at h
 obtain ⟨d,_,h⟩:=gD9.1 h
 rcases Zia h with ⟨e,ie,h1,h2,h3⟩|h
 · exact .inl ⟨e,ie,98,h1,h2,h3⟩
 · exact .inr h
theorem Zdk {P:Program} {k:Nat} {u:TypeId} {i:TypeInfo} (h:P.info? u=some i) (hp:Zoi i.desc):P.typeName? (k+1) u=none:=by
 unfold Program.typeName?
 rw [h]
 cases hd:i.desc<;>rw [hd] at hp<;>first|exact hp.elim|(simp only [hd])
theorem Zjw {P:Program} {k:Nat} {u e:TypeId} {i:TypeInfo} (h:P.info? u=some i) (hp:i.desc= .pointer e):P.typeName? (k+1) u=(P.typeName? k e).map ("*" ++ ·):=by
 unfold Program.typeName?
 rw [h]
 simp only [hp]
 cases k<;>rfl
theorem Zoj {P:Program} {s:String} {u0:TypeId} (h1:∀u,u<P.types.size->P.typeName? 3 u=some ("*" ++s)->u=u0) (h2:∀e,e<P.types.size->P.typeName? 2 e=some s->∃ie n t,P.types[e]? =some ie/\ie.desc= .named n t)
 (h3:∀q:String,"*" ++q≠s) (hinj:∀q:String,"*" ++q= "*" ++s->q=s) {u:TypeId} (h:P.typeName? 3 u=some ("*" ++s)):u=u0:=by
 by_cases hu:u<P.types.size
 · exact h1 u hu h
 exfalso
 cases hi:P.info? u with
 |none=>unfold Program.typeName? at h;rw [hi] at h;cases h
 |some i=>
  rcases Zgd hu hi with ⟨e,ie,f,k1,k2,k3⟩|hp
  · rw [Zjw hi k1] at h
    obtain ⟨q,hq,h⟩:=Option.map_eq_some_iff.1 h
    have hq2:=hinj q h
    subst hq2
    by_cases he:e<P.types.size
    · obtain ⟨ie2,n,t,m1,m2⟩:=h2 e he hq
      have k2:(if e<P.types.size then P.types[e]? else (Made.decode (e-P.types.size)).bind (Made.reckon (Made.infoAt P.toTables f)))=some ie:=k2
      rw [if_pos he,m1] at k2
      cases k2
      exact k3 n t m2
    · cases hj:P.info? e with
      |none=>unfold Program.typeName? at hq;rw [hj] at hq;cases hq
      |some j=>
       rcases Zgd he hj with ⟨e2,_,_,l1,_,_⟩|hp
       · rw [Zjw hj l1] at hq
         obtain ⟨r,_,hr⟩:=Option.map_eq_some_iff.1 hq
         exact h3 r hr
       · rw [Zdk hj hp] at hq
         cases hq
  · rw [Zdk hi hp] at h
    cases h
theorem Zri {q s:String} (h: "*" ++q= "*" ++s):q=s:=by
 have:=congrArg String.toList h
 simp only [String.toList_append] at this
 exact String.toList_inj.1 (List.append_cancel_left this)
theorem Zuz (q:String): "*" ++q≠ "errors.errorString" :=by
 intro h
 have:=congrArg String.toList h
 simp [String.toList_append] at this
def Zw8:TypeDesc->Bool
 | .named _ _=>true
 |_=>false
theorem Zge {P:Program} {u0:TypeId} (h1:((List.range P.types.size).all fun i=>i==u0|| !(P.typeName? 3 i==some "*errors.errorString"))=true)
 (h2:((List.range P.types.size).all fun e=> !(P.typeName? 2 e==some "errors.errorString")||((P.types[e]?).any fun i=>Zw8 i.desc))=true) {u:TypeId} (h:P.typeName? 3 u=some "*errors.errorString"):u=u0:=by
 refine Zoj (s:= "errors.errorString") (fun i hi e=> ?_) (fun e he k=> ?_) Zuz (fun q=>Zri) h
 · have:=List.all_eq_true.1 h1 i (List.mem_range.2 hi)
   have e:P.typeName? 3 i=some "*errors.errorString" :=e
   rw [e] at this
   simpa using this
 · have:=List.all_eq_true.1 h2 e (List.mem_range.2 he)
   rw [k] at this
   cases ht:P.types[e]? with
   |none=>rw [ht] at this;simp at this
   |some ie=>
    rw [ht] at this
    cases hd:ie.desc with
    |named n t=>exact ⟨ie,n,t,rfl,hd⟩
    |_=>rw [Option.any_some,hd] at this;simp [Zw8] at this
end
section
open Go.ChangeShapes Go.WideShapes Go.ChangeAt Go.RowKit
theorem Zrz {H:Type} {enc:TypeId×Value->H} {P:Program} {w:World} {spare:Nat->Bool} {held:Bool} {fuel:Nat} {t:TypeId} {cs:List Value} {k k':IntKind} {n:Int} {p:List MemPlace} (ht:P.underlying t=some (.int k))
 (h:DataW.trod enc P w 0 spare held fuel t cs=some (.lit (.int k' n),p)):cs= [.int k' n]:=by
 cases fuel with
 |zero=>simp [DataW.trod] at h
 |succ m=>
  unfold DataW.trod at h
  rw [ht] at h
  split at h<;>simp_all
theorem Zo0 {P:Program} {W:World} {name:String} {d:DataW Unit} {nums:List Int} {kd:IntKind} {g n:Nat} {t el:TypeId} (hg0:P.globalNamed name=some g) (ht0:(P.globals[g]?).map (·.type)=some t) (hd0:d= .agg (nums.map fun n=> .lit (.int kd n)))
 (hu:P.underlying t=some (.array n el)) (hue:P.underlying el=some (.int kd)) (hc:P.cellsOf el=1) (hn:nums.length=n) (h:laidMet P [(name,d)] W) (j:Nat) (x:Int) (hj:nums[j]? =some x):W.cell? ⟨g,j,none⟩=some (.int kd x):=by
 obtain ⟨ps,⟨g',t',cs,fuel,p,q,hg,ht,hv,hd,_,_⟩,_⟩:=h
 obtain rfl:=Option.some.inj (hg0.symm.trans hg)
 obtain rfl:=Option.some.inj (ht0.symm.trans ht)
 rw [hd0] at hd
 obtain ⟨xs,m,rfl,hx,hl,hxl,hf⟩:=DataW.trod_array hu hd
 simp only [Prod.mk.injEq,DataW.agg.injEq] at hx
 have hjn:j<n:=by rw [<-hn];exact (gA9.1 hj).1
 have h1:=hf j hjn
 have h2:(xs.map (·.1))[j]? =some (.lit (.int kd x)):=by rw [<-hx.1,List.getElem?_map,hj];rfl
 rw [List.getElem?_map] at h2
 obtain ⟨y,hy1,hy2⟩:=Option.map_eq_some_iff.1 h2
 rw [hy1,hc,Nat.mul_one] at h1
 obtain ⟨d',p'⟩:=y
 obtain rfl:d'=_:=hy2
 have h3:=Zrz hue h1
 rw [World.var?_cell hg hv j]
 have h4:((cs.toList.drop j).take 1)[0]? =some (.int kd x):=by rw [h3];rfl
 rw [List.getElem?_take,if_pos (by decide),List.getElem?_drop] at h4
 simpa using h4
theorem Zr0 {H:Type} {enc:TypeId×Value->H} {P:Program} {w:World} {spare:Nat->Bool} {fuel:Nat} {t:TypeId} {cs:List Value} {ms:Array (String×TypeId)} {name:String} {d:DataW H} {p:List MemPlace} (ht:P.underlying t=some (.interface ms))
 (h:DataW.trod enc P w 0 spare false fuel t cs=some (.iface name d,p)):∃u v,cs= [.iface u v]/\P.typeName? 3 u=some name:=by
 cases fuel with
 |zero=>simp [DataW.trod] at h
 |succ m=>
  unfold DataW.trod at h
  rw [ht] at h
  split at h
  all_goals simp_all
  rename_i u v _
  cases hn:P.typeName? 3 u with
  |none=>rw [hn] at h;cases h
  |some nm=>
   rw [hn] at h
   obtain ⟨y,_,hy⟩:=Option.map_eq_some_iff.1 h
   cases hy
   rfl
theorem Zj1 {P:Program} {W:World} {name tn:String} {d:DataW Unit} {d0:DataW Unit} {g:Nat} {t u:TypeId} {ms:Array (String×TypeId)} (hg0:P.globalNamed name=some g) (ht0:(P.globals[g]?).map (·.type)=some t) (hd0:d= .iface tn d0)
 (hu:P.underlying t=some (.interface ms)) (hq:∀i,P.typeName? 3 i=some tn->i=u) (h:laidMet P [(name,d)] W):∃v,W.cell? ⟨g,0,none⟩=some (.iface u v):=by
 obtain ⟨ps,⟨g',t',cs,fuel,p,q,hg,ht,hv,hd,_,_⟩,_⟩:=h
 obtain rfl:=Option.some.inj (hg0.symm.trans hg)
 obtain rfl:=Option.some.inj (ht0.symm.trans ht)
 rw [hd0] at hd
 obtain ⟨i,v,hcs,hn⟩:=Zr0 hu hd
 have hi:i=u:=hq i hn
 subst hi
 refine ⟨v,?_⟩
 rw [World.var?_cell hg hv 0]
 have h4:cs.toList[0]? =some (.iface i v):=by rw [hcs];rfl
 simpa using h4
abbrev Zb7:List (String×DataW Unit):= [("math/bits.deBruijn32tab",Rows.laid_math_bits_deBruijn32tab),("math/bits.deBruijn64tab",Rows.laid_math_bits_deBruijn64tab),("internal/strconv.uint64pow10",Rows.laid_internal_strconv_uint64pow10),("unicode/utf8.acceptRanges",Rows.laid_unicode_utf8_acceptRanges),("strconv.ErrRange",Rows.laid_strconv_ErrRange),("strconv.ErrSyntax",Rows.laid_strconv_ErrSyntax),("unicode/utf8.first",Rows.laid_unicode_utf8_first)]
def powN:List Int:= [1,10,100,1000,10000,100000,1000000,10000000,100000000,1000000000,10000000000,100000000000,1000000000000,10000000000000,100000000000000,1000000000000000,10000000000000000,100000000000000000,1000000000000000000,10000000000000000000]
theorem Zr1 {W:World} (h:laidMetH Tryz.prog Zb7 W) (j:Nat) (x:Int) (hj:powN[j]? =some x):W.cell? ⟨5,j,none⟩=some (.int .u64 x):=by
 have h0:laidMetH Tryz.prog [("internal/strconv.uint64pow10",Rows.laid_internal_strconv_uint64pow10)] W:=laidMetH.filter (fun x=>x.1== "internal/strconv.uint64pow10") h
 exact Zo0 (kd:= .u64) (nums:=powN) (n:=20) (by kernel_rfl) (by kernel_rfl) rfl Tryz.underlying124 Tryz.underlying45 (by kernel_rfl) rfl h0 j x hj
theorem Zvd {W:World} (h:laidMetH Tryz.prog Zb7 W):∃v,W.cell? ⟨3,0,none⟩=some (.iface 136 v):=by
 have h0:laidMetH Tryz.prog [("strconv.ErrSyntax",Rows.laid_strconv_ErrSyntax)] W:=laidMetH.filter (fun x=>x.1== "strconv.ErrSyntax") h
 exact Zj1 (by kernel_rfl) (by kernel_rfl) rfl Tryz.underlying63 (fun i hi=>Zge (by kernel_rfl) (by kernel_rfl) hi) h0
theorem Zve {W:World} (h:laidMetH Tryz.prog Zb7 W):∃v,W.cell? ⟨4,0,none⟩=some (.iface 136 v):=by
 have h0:laidMetH Tryz.prog [("strconv.ErrRange",Rows.laid_strconv_ErrRange)] W:=laidMetH.filter (fun x=>x.1== "strconv.ErrRange") h
 exact Zj1 (by kernel_rfl) (by kernel_rfl) rfl Tryz.underlying63 (fun i hi=>Zge (by kernel_rfl) (by kernel_rfl) hi) h0
theorem Zo1:Zd8 3=some (.iface 136 .unk):=rfl
theorem Zo2:Zd8 4=some (.iface 136 .unk):=rfl
theorem Zl9 {g g':GH} {w w':World} (h:Stp 0 0 [] σ0 g w σ0 g' w'):Ext w w':=⟨h.os,h.tape,h.output,h.size,fun k hk=>h.heap k hk (by simp)⟩
theorem Zvf:Zd8 5=some (.agg (powN.map fun n=> .int true .u64 n)):=rfl
theorem Zo3 {f:FuncId} {args:List (SV thy)} (hp:PureC E f args (.bool false true)) {W:World} (hL:laidMetH Tryz.prog Zb7 W) {vals:Array Value} (hd:DenL E σ0 (gTop W) args vals.toList):Calls Tryz.prog f vals W fun en W'=>en= .returned (.bool true)/\Ext W W':=by
 have hI:Inv E W.heap.size σ0 hp0 (gTop W) W:=Zur fun n sv hn j s hj=>by
  match n,hn with
  |5,hn=>
   have hn:Zd8 5=some sv:=hn
   rw [Zvf] at hn
   cases hn
   have hj:(powN.map fun n=>(SV.int true .u64 n:SV thy))[j]? =some s:=hj
   rw [List.getElem?_map] at hj
   obtain ⟨n,hn,rfl⟩:=Option.map_eq_some_iff.1 hj
   exact ⟨_,Zr1 hL j n hn,.int _ _ _⟩
  |3,hn=>
   have hn:Zd8 3=some sv:=hn
   rw [Zo1] at hn
   cases hn
   match j,hj with
   |0,hj=>cases hj;obtain ⟨v,hv⟩:=Zvd hL;exact ⟨_,hv,.iface (.unk _)⟩
  |4,hn=>
   have hn:Zd8 4=some sv:=hn
   rw [Zo2] at hn
   cases hn
   match j,hj with
   |0,hj=>cases hj;obtain ⟨v,hv⟩:=Zve hL;exact ⟨_,hv,.iface (.unk _)⟩
 refine (hp _ W vals hI hd).mono ?_
 rintro en w' ⟨u,rfl,g',hS,_,hv⟩
 cases hv
 exact ⟨rfl,Zl9 hS⟩
theorem Zyp {g:GH} {s0:SV thy} {v0:Value} (h0:Den E σ0 g s0 v0):DenL E σ0 g [s0] [v0]:=⟨rfl,fun j sv v h1 h2=>by
 match j,h1,h2 with
 |0,h1,h2=>cases h1;cases h2;exact h0⟩
theorem Zb8 {g:GH} {s0:SV thy} {v0:Value} {ss:List (SV thy)} {vs:List Value} (h0:Den E σ0 g s0 v0) (h:DenL E σ0 g ss vs):DenL E σ0 g (s0::ss) (v0::vs):=⟨by simp [h.1],fun j sv v h1 h2=>by
 cases j with
 |zero=>cases h1;cases h2;exact h0
 |succ j=>exact h.2 j sv v h1 h2⟩
section
variable {H:Type} {enc:TypeId × Value->H} {w:World} {spare:Nat->Bool} {held:Bool}
theorem Zr2:Tryz.prog.cellsOf 3=1:=by kernel_rfl
theorem Zii (fuel:Nat) (cs:List Value) (x:DataW H×List MemPlace) (h:DataW.trod enc Tryz.prog w 0 spare held fuel 3 cs=some x):∃a:Int,∀(j:Nat) sv,(E.enc Th.ints a)[j]? =some sv->∃v,cs[j]? =some v/\Den E σ0 (gTop w) sv v:=by
 obtain ⟨p,rfl,_⟩:=Zof Tryz.underlying3 h
 refine ⟨p,fun j sv hj=> ?_⟩
 match j,hj with
 |0,hj=>cases hj;exact ⟨_,rfl,.int _ _ _⟩
theorem Zo4 {r:Reach} {b0:Nat} {v:Value} {d:DataW H} {ps:List MemPlace} (hval:Value.okWide Tryz.prog w r b0 22 v) (h:DataW.Trod enc Tryz.prog w 0 spare held 22 v d ps):∃l:List Int,Den E σ0 (gTop w) (.psl Th.ints l false) v:=by
 obtain ⟨a,len,cap,rfl⟩:=okWide_slice Tryz.underlying22 hval
 obtain ⟨fuel,h⟩:=h
 obtain ⟨sv,l,h1,h2⟩:=Zh3 (E:=E) (th:=Th.ints) (fun _=>rfl) (by decide) Tryz.underlying22 Zr2 h (fun n cs' y hy=>Zii n cs' y hy)
 have h1: [Value.slice a len cap]= [sv]:=h1
 cases h1
 exact ⟨l,h2⟩
theorem Zo5 {r:Reach} {b0:Nat} {t:TypeId} {v:Value} {d:DataW H} {ps:List MemPlace} {ts:List TypeId} {dss:List (DataW H)} {j:Nat} (hu:Tryz.prog.underlying t=some .string) (hz:(DataW.weightsEach Tryz.prog ts dss).all (· <=reachBytes)=true) (ht:ts[j]? =some t) (hd:dss[j]? =some d)
 (hval:Value.okWide Tryz.prog w r b0 t v) (h:DataW.Trod enc Tryz.prog w 0 spare held t v d ps):∃s:List Nat,Den E σ0 (gTop w) (.str false s) v/\s.length<=140737488355328:=by
 obtain ⟨s,rfl,rfl,_,_⟩:=Go.ChangeMaps.open_string hu hval h
 have:=sized_string hz ht hd
 refine ⟨toL s,.str _ rfl,?_⟩
 have hr:=reachBytes_lt
 rw [Xj]
 show s.data.size<=_
 rw [<-Array.length_toList]
 omega
theorem Zo6 {n:Int} (h:(Lit.int .i64 n).wf=true): -9223372036854775808<=n/\n<=9223372036854775807:=by
 have h:(decide (IntKind.i64.min<=n)&&decide (n<=IntKind.i64.max))=true:=h
 simp only [Bool.and_eq_true,decide_eq_true_eq] at h
 have h1:IntKind.i64.min= -9223372036854775808:=rfl
 have h2:IntKind.i64.max=9223372036854775807:=rfl
 omega
end
theorem Zr3 (os:Os):(World.laidAll Tryz.prog os Zb7).Shaped Tryz.prog:=World.shaped_of_ZipB (by kernel_rfl) (by kernel_rfl)
theorem Zr4 (os:Os) (args:Array Value):laidMetH Tryz.prog Zb7 ((World.laidAll Tryz.prog os Zb7).forCall (fun _ _=>0) ⟨#[],args,[]⟩).memory:=by
 rw [MakeChecks.laidMetH_plain _ _ _ (by kernel_rfl)]
 exact laidMet_laidAll _ (by kernel_rfl) (by kernel_rfl)
end
section
open Go Go.RowKit Go.ChangeShapes Go.WideShapes Go.ChangeAt
theorem Zmz (t:Int) (ws:List Int) (h:ws.length<=300):(Yn t ws).1.length<=1000000:=by
 rw [Zao]
 split
 · exact Nat.zero_le _
 split
 · exact Nat.zero_le _
 show (outP _ _ ws).length<=_
 unfold outP
 rw [Zd3,List.length_replicate]
 omega
theorem Zm0 (t:Int) (ws:List Int) (s:List Nat) (w0 w1 w2 w3 w4:Int) (h1: -9223372036854775808<=t) (h2:t<=9223372036854775807) (hl:s.length<=140737488355328):
 PureC E 3 [.int false .i64 t,.psl .ints ws false,.str false s,.agg [.int false .i64 w0,.int false .i64 w1,.int false .i64 w2,.int false .i64 w3,.int false .i64 w4]] (.bool false true):=by
 refine Zb E_ok (Zc E_ok Zwn 400) ?_
 rw [Zlb]
 refine ⟨trivial,fun h=>absurd h (by decide),fun _=>⟨fun _=>rfl,fun h=>⟨trivial,fun y hy=>⟨trivial,fun y1 hy1=>⟨hl,fun y2 hy2=>⟨hl,fun y3 hy3=>⟨trivial,fun y4 hy4=>⟨trivial,fun y5 hy5=> ?_⟩⟩⟩⟩⟩⟩⟩⟩
 have h:=of_decide_eq_false h
 obtain rfl:y=y1:=hy.trans hy1.symm
 obtain rfl:y2=y3:=hy2.trans hy3.symm
 obtain rfl:y4=y5:=hy4.trans hy5.symm
 refine ⟨by rw [hy];exact Zmz t ws (by omega),fun z hz=>⟨fun _=>⟨fun _=>⟨fun _=>⟨fun _=>⟨fun _=>⟨fun _=>⟨⟨h1,h2⟩,fun p hp=>⟨⟨h1,h2⟩,fun q hq=>⟨fun _=>rfl,fun k=> ?_⟩⟩⟩,fun k=> ?_⟩,fun k=> ?_⟩,fun k=> ?_⟩,fun k=> ?_⟩,fun k=> ?_⟩,fun k=> ?_⟩⟩
 · rw [hp,hq] at k;simp at k
 all_goals
  first
   |(simp at k)
   |(rw [hz] at k;simp at k)
section
variable {H:Type} {enc:TypeId × Value->H} {w:World} {spare:Nat->Bool} {held:Bool}
theorem Zqr:Tryz.prog.cellsOf 23=5:=by kernel_rfl
theorem Zwc:Tryz.prog.cellsOf 3=1:=by kernel_rfl
theorem Zqs {v:Value} {d:DataW H} {ps:List MemPlace} (h:DataW.Trod enc Tryz.prog w 0 spare held 23 v d ps):∃p:Int×Int×Int×Int×Int,Den E σ0 (gTop w) (.agg [.int false .i64 p.1,.int false .i64 p.2.1,.int false .i64 p.2.2.1,.int false .i64 p.2.2.2.1,.int false .i64 p.2.2.2.2]) v:=by
 obtain ⟨fuel,h⟩:=h
 obtain ⟨ys,m,rfl,_,hl,hyl,hg⟩:=DataW.trod_array Tryz.underlying23 h
 rw [Zqr] at hl
 have hv:=Zgb hl (by decide)
 generalize v.cells.toList=cs at*
 have hall:∀i,i<5->∃n:Int,cs[i]? =some (.int .i64 n):=by
  intro i hi
  have h2:=hg i hi
  rw [gB9 (by omega)] at h2
  simp only [List.getElem_toArray,List.getElem_cons_zero,List.getElem_cons_succ,Zwc,Nat.mul_one] at h2
  obtain ⟨n,hn,_⟩:=Zof Tryz.underlying3 h2
  refine ⟨n,?_⟩
  have h3:((cs.drop i).take 1)[0]? =some (.int .i64 n):=by rw [hn];rfl
  rw [List.getElem?_take,if_pos (by decide),List.getElem?_drop] at h3
  simpa using h3
 obtain ⟨f,hfam⟩:=Go.Deep.choose_lt (α:=Int) hall
 rw [hv]
 refine ⟨⟨f 0,f 1,f 2,f 3,f 4⟩,?_⟩
 refine .agg (fun j=>cs.getD j undef) (by simp [hl]) (fun j hj=> ?_) (fun j sv hj=> ?_)
 · have hj:j<5:=hj
   rw [List.getElem?_toArray,List.getD_eq_getElem?_getD,gB9 (by omega)];rfl
 · match j,hj with
   |0,hj=>cases hj;rw [List.getD_eq_getElem?_getD,hfam 0 (by omega)];exact .int _ _ _
   |1,hj=>cases hj;rw [List.getD_eq_getElem?_getD,hfam 1 (by omega)];exact .int _ _ _
   |2,hj=>cases hj;rw [List.getD_eq_getElem?_getD,hfam 2 (by omega)];exact .int _ _ _
   |3,hj=>cases hj;rw [List.getD_eq_getElem?_getD,hfam 3 (by omega)];exact .int _ _ _
   |4,hj=>cases hj;rw [List.getD_eq_getElem?_getD,hfam 4 (by omega)];exact .int _ _ _
end
end
end Go.Proofs.YthonhikjbpplnaaGreatDoor
end
