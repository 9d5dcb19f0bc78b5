/- Merged texts: MnS, MnS2, MnH, TvX, EngZW, MnI, MnJ, MnK, MnM, MnO, MnQ, MnR, MnSa, MnSb, MnSc, MnSd, MnSe. -/
import Derived.WalkKit
import Derived.Test.YthonhikjbpplnaaGreatDoorMc
noncomputable section
namespace Go.Proofs.YthonhikjbpplnaaGreatDoor
set_option linter.unusedVariables false
set_option linter.unusedSimpArgs false
set_option linter.unnecessarySimpa false
set_option maxRecDepth 100000
section
section
variable {α:Type} (kl ix:α->Int)
def Slt (x y:α):Prop:=kl y<kl x\/(kl x=kl y/\ix x<ix y)
def Srt (l:List α):Prop:=l.Pairwise (Slt kl ix)
variable {kl ix}
theorem Slt.trans {x y z:α} (h1:Slt kl ix x y) (h2:Slt kl ix y z):Slt kl ix x z:=by
 unfold Slt at*;omega
theorem Slt.key {x y:α} (h:Slt kl ix x y):kl y<=kl x:=by unfold Slt at h;omega
theorem srt_app {a b:List α}:Srt kl ix (a++b)↔Srt kl ix a/\Srt kl ix b/\∀x∈a,∀y∈b,Slt kl ix x y:=List.pairwise_append
theorem Zdv {a:List α} (h:Srt kl ix a) {z:α} (hz:z∈a.getLast?):∀x∈a,kl z<=kl x:=by
 obtain ⟨b,rfl⟩:∃b,a=b++ [z]:=by
  rw [Option.mem_def,List.getLast?_eq_some_iff] at hz
  exact hz
 intro x hx
 rcases List.mem_append.1 hx with hx|hx
 · exact ((srt_app.1 h).2.2 x hx z (by simp)).key
 · rw [List.mem_singleton.1 hx];exact Int.le_refl _
theorem Zdw {a:List α} (h:Srt kl ix a) {z:α} (hz:z∈a.head?):∀x∈a,kl x<=kl z:=by
 cases a with
 |nil=>cases hz
 |cons w r=>
  cases hz
  intro x hx
  rcases List.mem_cons.1 hx with rfl|hx
  · exact Int.le_refl _
  · exact ((List.pairwise_cons.1 h).1 x hx).key
theorem Zmb {a:List α} {x:α} (h:x∈a):∃z,z∈a.getLast? :=by
 cases hl:a.getLast? with
 |none=>rw [List.getLast?_eq_none_iff] at hl;rw [hl] at h;cases h
 |some z=>exact ⟨z,rfl⟩
theorem Zmc {a:List α} {x:α} (h:x∈a):∃z,z∈a.head? :=by
 cases a with
 |nil=>cases h
 |cons w r=>exact ⟨w,rfl⟩
theorem Zfm {s1 s2 t1 t2 r1 r2:List α} (hs:Srt kl ix (s1++s2)) (ht:Srt kl ix (t1++t2)) (hix:∀x∈s1++s2,∀y∈t1++t2,ix x<ix y)
 (c1:∀x∈s2.head?,∀y∈t1.getLast?,kl x<kl y) (c2:∀x∈s1.getLast?,∀y∈t2.head?,kl y<=kl x)
 (p1:r1.Perm (s1++t1)) (p2:r2.Perm (s2++t2)) (q1:Srt kl ix r1) (q2:Srt kl ix r2):Srt kl ix (r1++r2)/\(r1++r2).Perm (s1++s2++(t1++t2)):=by
 obtain ⟨a1,a2,a3⟩:=srt_app.1 hs
 obtain ⟨b1,b2,b3⟩:=srt_app.1 ht
 refine ⟨srt_app.2 ⟨q1,q2,fun x hx y hy=> ?_⟩,?_⟩
 · rcases List.mem_append.1 (p1.mem_iff.1 hx) with hx|hx<;>rcases List.mem_append.1 (p2.mem_iff.1 hy) with hy|hy
   · exact a3 x hx y hy
   · obtain ⟨z,hz⟩:=Zmb hx
     obtain ⟨w,hw⟩:=Zmc hy
     have k1:=Zdv a1 hz x hx
     have k2:=Zdw b2 hw y hy
     have k3:=c2 z hz w hw
     have k4:=hix x (List.mem_append_left _ hx) y (List.mem_append_right _ hy)
     unfold Slt;omega
   · obtain ⟨z,hz⟩:=Zmb hx
     obtain ⟨w,hw⟩:=Zmc hy
     have k1:=Zdv b1 hz x hx
     have k2:=Zdw a2 hw y hy
     have k3:=c1 w hw z hz
     unfold Slt;omega
   · exact b3 x hx y hy
 · refine (p1.append p2).trans ?_
   have e1:(s1++t1++(s2++t2)).Perm (s1++(t1++s2)++t2):=by simp
   have e2:(s1++(t1++s2)++t2).Perm (s1++(s2++t1)++t2):=((List.perm_append_comm.append_left s1).append_right t2)
   have e3:s1++(s2++t1)++t2=s1++s2++(t1++t2):=by simp
   rw [<-e3]
   exact e1.trans e2
theorem Zg6 {x:α} {t1 t2:List α} (ht:Srt kl ix (t1++t2)) (hix:∀y∈t1++t2,ix x<ix y) (c1:∀y∈t1,kl x<kl y) (c2:∀y∈t2,kl y<=kl x):Srt kl ix (t1++x::t2):=by
 obtain ⟨b1,b2,b3⟩:=srt_app.1 ht
 refine srt_app.2 ⟨b1,List.pairwise_cons.2 ⟨fun y hy=> ?_,b2⟩,fun a ha y hy=> ?_⟩
 · have:=c2 y hy
   have:=hix y (List.mem_append_right _ hy)
   unfold Slt;omega
 · rcases List.mem_cons.1 hy with rfl|hy
   · have:=c1 a ha
     unfold Slt;omega
   · exact b3 a ha y hy
theorem Zac {x:α} {s1 s2:List α} (hs:Srt kl ix (s1++s2)) (hix:∀y∈s1++s2,ix y<ix x) (c1:∀y∈s1,kl x<=kl y) (c2:∀y∈s2,kl y<kl x):Srt kl ix (s1++x::s2):=by
 obtain ⟨b1,b2,b3⟩:=srt_app.1 hs
 refine srt_app.2 ⟨b1,List.pairwise_cons.2 ⟨fun y hy=> ?_,b2⟩,fun a ha y hy=> ?_⟩
 · have:=c2 y hy
   unfold Slt;omega
 · rcases List.mem_cons.1 hy with rfl|hy
   · have:=c1 a ha
     have:=hix a (List.mem_append_left _ ha)
     unfold Slt;omega
   · exact b3 a ha y hy
theorem Zc1:∀{a b:List α},Srt kl ix a->Srt kl ix b->a.Perm b->a=b
 | [],b,_,_,p=>p.nil_eq
 |x::a,[],_,_,p=>by cases p.symm.nil_eq
 |x::a,y::b,ha,hb,p=>by
  have irr:∀z:α,¬Slt kl ix z z:=fun z h=>by unfold Slt at h;omega
  have e:x=y:=by
   rcases List.mem_cons.1 (p.mem_iff.1 (List.mem_cons_self)) with h|h
   · exact h
   · rcases List.mem_cons.1 (p.mem_iff.2 (List.mem_cons_self)) with h2|h2
     · exact h2.symm
     · exact absurd (((List.pairwise_cons.1 ha).1 y h2).trans ((List.pairwise_cons.1 hb).1 x h)) (irr x)
  subst e
  rw [Zc1 (List.pairwise_cons.1 ha).2 (List.pairwise_cons.1 hb).2 (p.cons_inv)]
end
end
section
section
variable {α:Type}
def seg (l:List α) (a b:Nat):List α:=(l.drop a).take (b-a)
def repl (l:List α) (a b:Nat) (m:List α):List α:=l.take a++m++l.drop b
theorem Zb9 (p m q:List α):seg (p++m++q) p.length (p.length+m.length)=m:=by
 unfold seg
 rw [List.append_assoc,List.drop_left,show p.length+m.length-p.length=m.length by omega,List.take_left]
theorem Zel (p m q m':List α):repl (p++m++q) p.length (p.length+m.length) m'=p++m'++q:=by
 unfold repl
 rw [List.append_assoc p m q,List.take_left,<-List.append_assoc p m q,<-List.length_append,List.drop_left]
theorem Zca (l:List α) {a b:Nat} (h:a<=b) (h2:b<=l.length):∃p m q,l=p++m++q/\p.length=a/\a+m.length=b:=by
 refine ⟨l.take a,(l.drop a).take (b-a),l.drop b,?_,by rw [List.length_take];omega,by rw [List.length_take,List.length_drop];omega⟩
 have e:l.drop b=(l.drop a).drop (b-a):=by rw [List.drop_drop];congr 1;omega
 rw [e,List.append_assoc,List.take_append_drop,List.take_append_drop]
theorem Vk {p m q:List α} {a b:Nat} (h1:p.length=a) (h2:a+m.length=b):seg (p++m++q) a b=m:=by
 subst h1;subst h2;exact Zb9 p m q
theorem Zhs {p m q m':List α} {a b:Nat} (h1:p.length=a) (h2:a+m.length=b):repl (p++m++q) a b m'=p++m'++q:=by
 subst h1;subst h2;exact Zel p m q m'
def swp (l:List α) (i j:Nat):List α:=match l[i]?,l[j]? with
 |some x,some y=>(l.set i y).set j x
 |_,_=>l
theorem Zqg {p r q:List α} {x y:α}:swp (p++x::(r++y::q)) p.length (p.length+1+r.length)=p++y::(r++x::q):=by
 have e1:(p++x::(r++y::q))[p.length]? =some x:=by simp
 have e2:(p++x::(r++y::q))[p.length+1+r.length]? =some y:=by
  rw [List.getElem?_append_right (by omega),show p.length+1+r.length-p.length=r.length+1 by omega,List.getElem?_cons_succ,List.getElem?_append_right (Nat.le_refl _)]
  simp
 unfold swp
 rw [e1,e2]
 show ((p++x::(r++y::q)).set p.length y).set (p.length+1+r.length) x=_
 rw [List.set_append_right _ _ (Nat.le_refl _),Nat.sub_self,List.set_cons_zero,List.set_append_right _ _ (by omega),show p.length+1+r.length-p.length=r.length+1 by omega,List.set_cons_succ,List.set_append_right _ _ (Nat.le_refl _),Nat.sub_self,List.set_cons_zero]
theorem Zi7 (l:List α) (i j:Nat) (h:i≠j):swp l i j=swp l j i:=by
 unfold swp
 cases h1:l[i]? with
 |none=>cases h2:l[j]? <;>rfl
 |some x=>cases h2:l[j]? with
  |none=>rfl
  |some y=>exact List.set_comm _ _ h
theorem Zi8 {l:List α} {i j:Nat} {x y:α} (h1:l[i]? =some x) (h2:l[j]? =some y):(l.set i y).set j x=swp l i j:=by
 unfold swp
 rw [h1,h2]
theorem Zem {p q:List α} {x y:α}:swp (p++y::x::q) (p.length+1) p.length=p++x::y::q:=by
 rw [Zi7 _ _ _ (by omega)]
 exact Zqg (p:=p) (r:= []) (q:=q) (x:=y) (y:=x)
theorem Zpl {p X1 X2 r Y1 Y2 q:List α} {x y:α}:swp (p++(Y1++x::X2)++r++(X1++y::Y2)++q) (p.length+Y1.length) (p.length+Y1.length+1+X2.length+r.length+X1.length)=p++(Y1++y::X2)++r++(X1++x::Y2)++q:=by
 have:=Zqg (p:=p++Y1) (r:=X2++(r++X1)) (q:=Y2++q) (x:=x) (y:=y)
 simpa [List.append_assoc,Nat.add_assoc] using this
def swrF (l:List α) (a b n:Nat):List α:=l.take a++seg l b (b+n)++seg l (a+n) b++seg l a (a+n)++l.drop (b+n)
theorem Zaz {p X r Y q:List α} {a b n:Nat} (h1:p.length=a) (h2:X.length=n) (h3:a+n+r.length=b) (h4:Y.length=n):swrF (p++X++r++Y++q) a b n=p++Y++r++X++q:=by
 have e1:(p++X++r++Y++q).take a=p:=by
  rw [List.append_assoc,List.append_assoc,List.append_assoc,<-h1,List.take_left]
 have e2:seg (p++X++r++Y++q) b (b+n)=Y:=Vk (p:=p++X++r) (by simp;omega) (by omega)
 have e3:seg (p++X++r++Y++q) (a+n) b=r:=by
  rw [List.append_assoc]
  exact Vk (p:=p++X) (by simp;omega) (by omega)
 have e4:seg (p++X++r++Y++q) a (a+n)=X:=by
  rw [List.append_assoc,List.append_assoc]
  exact Vk h1 (by omega)
 have e5:(p++X++r++Y++q).drop (b+n)=q:=by
  rw [show b+n=(p++X++r++Y).length by simp;omega,List.drop_left]
 unfold swrF
 rw [e1,e2,e3,e4,e5]
end
section
variable {α:Type} (kl ix:α->Int)
def insU (x:α):List α->List α
 | []=> [x]
 |y::r=>if kl y<kl x\/(kl x=kl y/\ix x<ix y) then x::y::r else y::insU x r
def srtU:List α->List α
 | []=> []
 |x::r=>insU kl ix x (srtU r)
def Dix (l:List α):Prop:=l.Pairwise fun x y=>ix x≠ix y
variable {kl ix}
theorem Dix.perm {a b:List α} (h:Dix ix a) (p:a.Perm b):Dix ix b:=(p.pairwise_iff fun h=>Ne.symm h).1 h
theorem Zcb (x:α):∀l:List α,(insU kl ix x l).Perm (x::l)
 | []=> .refl _
 |y::r=>by
  unfold insU
  split
  · exact .refl _
  · exact ((Zcb x r).cons y).trans (.swap x y r)
theorem Zo:∀l:List α,(srtU kl ix l).Perm l
 | []=> .refl _
 |x::r=>(Zcb x _).trans ((Zo r).cons x)
theorem Y3 (l:List α):(srtU kl ix l).length=l.length:=(Zo l).length_eq
theorem Zi9 {x:α}:∀{l:List α},Srt kl ix l->(∀y∈l,ix x≠ix y)->Srt kl ix (insU kl ix x l)
 | [],_,_=>List.pairwise_singleton _ _
 |y::r,h,hd=>by
  obtain ⟨h1,h2⟩:=List.pairwise_cons.1 h
  unfold insU
  split
  · rename_i c
    refine List.pairwise_cons.2 ⟨fun z hz=> ?_,h⟩
    rcases List.mem_cons.1 hz with rfl|hz
    · exact c
    · exact Slt.trans (kl:=kl) (ix:=ix) c (h1 z hz)
  · rename_i c
    have hyx:Slt kl ix y x:=by
     have:=hd y (by simp)
     unfold Slt
     omega
    refine List.pairwise_cons.2 ⟨fun z hz=> ?_,Zi9 h2 fun z hz=>hd z (by simp [hz])⟩
    rcases List.mem_cons.1 ((Zcb x r).mem_iff.1 hz) with rfl|hz
    · exact hyx
    · exact h1 z hz
theorem Y4:∀{l:List α},Dix ix l->Srt kl ix (srtU kl ix l)
 | [],_=>List.Pairwise.nil
 |x::r,h=>by
  obtain ⟨h1,h2⟩:=List.pairwise_cons.1 h
  exact Zi9 (Y4 h2) fun y hy=>h1 y ((Zo r).mem_iff.1 hy)
theorem U7 {l m:List α} (hd:Dix ix l) (hm:Srt kl ix m) (p:m.Perm l):srtU kl ix l=m:=Zc1 (Y4 hd) hm ((Zo l).trans p.symm)
theorem Znq {l:List α} (hd:Dix ix l) (h:Srt kl ix l):srtU kl ix l=l:=U7 hd h (.refl _)
theorem Zpm {m s1 s2:List α} {x:α} (hd:Dix ix (m++ [x])) (hix:∀y∈m,ix y<ix x) (hs:srtU kl ix m=s1++s2) (c1:∀y∈s1,kl x<=kl y) (c2:∀y∈s2,kl y<kl x):srtU kl ix (m++ [x])=s1++x::s2:=by
 have hdm:Dix ix m:=(List.pairwise_append.1 hd).1
 have hS:Srt kl ix (s1++s2):=hs▸Y4 hdm
 have hp:(s1++s2).Perm m:=hs▸Zo m
 refine U7 hd (Zac hS (fun y hy=>hix y (hp.mem_iff.1 hy)) c1 c2) ?_
 have e:(s1++x::s2).Perm (x::(s1++s2)):=List.perm_middle
 exact e.trans ((hp.cons x).trans (List.perm_append_comm (l₁:= [x]) (l₂:=m)))
structure Mrg (kl ix:α->Int) (s t:List α):Prop where
 hs:Srt kl ix s
 ht:Srt kl ix t
 hd:Dix ix (s++t)
 hlt:∀x∈s,∀y∈t,ix x<ix y
theorem Zge {s1 s2 t1 t2:List α} (h:Mrg kl ix (s1++s2) (t1++t2)):Mrg kl ix s1 t1/\Mrg kl ix s2 t2:=by
 obtain ⟨hs,ht,hd,hl⟩:=h
 obtain ⟨a1,a2,a3⟩:=srt_app.1 hs
 obtain ⟨b1,b2,b3⟩:=srt_app.1 ht
 have hd2:∀x∈s1++s2,∀y∈t1++t2,ix x≠ix y:=(List.pairwise_append.1 hd).2.2
 have hds:=(List.pairwise_append.1 hd).1
 have hdt:=(List.pairwise_append.1 hd).2.1
 refine ⟨⟨a1,b1,List.pairwise_append.2 ⟨(List.pairwise_append.1 hds).1,(List.pairwise_append.1 hdt).1,fun x hx y hy=>hd2 x (List.mem_append_left _ hx) y (List.mem_append_left _ hy)⟩,fun x hx y hy=>hl x (List.mem_append_left _ hx) y (List.mem_append_left _ hy)⟩,
  ⟨a2,b2,List.pairwise_append.2 ⟨(List.pairwise_append.1 hds).2.1,(List.pairwise_append.1 hdt).2.1,fun x hx y hy=>hd2 x (List.mem_append_right _ hx) y (List.mem_append_right _ hy)⟩,fun x hx y hy=>hl x (List.mem_append_right _ hx) y (List.mem_append_right _ hy)⟩⟩
theorem Zk3 {s1 s2 t1 t2:List α} (h:Mrg kl ix (s1++s2) (t1++t2)) (c1:∀x∈s2.head?,∀y∈t1.getLast?,kl x<kl y) (c2:∀x∈s1.getLast?,∀y∈t2.head?,kl y<=kl x):
 srtU kl ix (s1++t1)++srtU kl ix (s2++t2)=srtU kl ix (s1++s2++(t1++t2)):=by
 obtain ⟨m1,m2⟩:=Zge h
 obtain ⟨q1,q2⟩:=Zfm (kl:=kl) (ix:=ix) h.hs h.ht h.hlt c1 c2 (Zo (s1++t1)) (Zo (s2++t2)) (Y4 m1.hd) (Y4 m2.hd)
 exact (U7 h.hd q1 q2).symm
theorem V2 {a:List α} {z x:α} (h:Srt kl ix (a++ [z])) (hx:x∈a++ [z]):kl z<=kl x:=Zdv h (by simp) x hx
theorem Zcc {a:List α} {z x:α} (h:Srt kl ix (z::a)) (hx:x∈z::a):kl x<=kl z:=Zdw h (by simp) x hx
end
end
section
def mkP (A S:Int):Nat->List Int->List Prt
 |_,[]=> []
 |k,w::r=>⟨k,A*w/S,A*w%S⟩::mkP A S (k+1) r
def sA (l:List Prt):Int:=(l.map Prt.amt).sum
def sR (l:List Prt):Int:=(l.map Prt.rest).sum
theorem Zla (p:Prt) (l:List Prt):sA (p::l)=p.amt+sA l:=by simp [sA]
theorem Zqm (p:Prt) (l:List Prt):sR (p::l)=p.rest+sR l:=by simp [sR]
theorem Us (A S:Int):∀(k:Nat) (l:List Int),(mkP A S k l).length=l.length
 |_,[]=>rfl
 |k,w::r=>by simp [mkP,Us A S (k+1) r]
theorem Zgh (A S:Int):∀(k:Nat) (l:List Int) (i:Nat),(mkP A S k l)[i]? =(l[i]?).map fun w=>⟨((k+i:Nat):Int),A*w/S,A*w%S⟩
 |_,[],i=>rfl
 |k,w::r,0=>rfl
 |k,w::r,i+1=>by
  show (mkP A S (k+1) r)[i]? =_
  rw [Zgh A S (k+1) r i,show k+1+i=k+(i+1) by omega]
  rfl
theorem Zgi (A S:Int):∀(k:Nat) (l:List Int),sA (mkP A S k l)*S+sR (mkP A S k l)=A*l.sum
 |_,[]=>by simp [mkP,sA,sR]
 |k,w::r=>by
  have ih:=Zgi A S (k+1) r
  have e:=Int.mul_ediv_add_emod (A*w) S
  show sA (_::mkP A S (k+1) r)*S+sR (_::mkP A S (k+1) r)=A*(w::r).sum
  rw [Zla,Zqm,List.sum_cons,Int.mul_add,<-ih,Int.add_mul]
  show A*w/S*S+_+(A*w%S+_)=_
  rw [Int.mul_comm (A*w/S) S]
  generalize sA (mkP A S (k+1) r)*S=a
  generalize sR (mkP A S (k+1) r)=b
  omega
theorem Wd {A S:Int} {p:Prt}:∀{k:Nat} {l:List Int},p∈mkP A S k l->∃i w,l[i]? =some w/\p=⟨((k+i:Nat):Int),A*w/S,A*w%S⟩
 |_,[],h=>by cases h
 |k,w::r,h=>by
  rcases List.mem_cons.1 h with rfl|h
  · exact ⟨0,w,rfl,rfl⟩
  · obtain ⟨i,v,h1,h2⟩:=Wd h
    exact ⟨i+1,v,h1,by rw [h2,show k+1+i=k+(i+1) by omega]⟩
theorem Zgj (A S:Int):∀(k:Nat) (l:List Int),Dix Prt.idx (mkP A S k l)
 |_,[]=>List.Pairwise.nil
 |k,w::r=>by
  refine List.pairwise_cons.2 ⟨fun p hp=> ?_,Zgj A S (k+1) r⟩
  obtain ⟨i,v,h1,rfl⟩:=Wd hp
  show (k:Int)≠((k+1+i:Nat):Int)
  omega
theorem Zdh {S:Int}:∀(l:List Prt),(∀p∈l,0<=p.rest/\p.rest<S)->0<=sR l/\sR l<=l.length*(S-1)
 | [],_=>by simp [sR]
 |p::r,h=>by
  have h1:=h p (by simp)
  obtain ⟨h2,h3⟩:=Zdh r fun q hq=>h q (by simp [hq])
  unfold sR at*
  rw [List.map_cons,List.sum_cons,List.length_cons,Int.natCast_add,Int.add_mul]
  generalize (r.length:Int)*(S-1)=z at*
  constructor<;>omega
theorem Zer {a b:List Int} (h:a.Perm b):a.sum=b.sum:=by
 induction h with
 |nil=>rfl
 |cons x _ ih=>rw [List.sum_cons,List.sum_cons,ih]
 |swap x y l=>simp only [List.sum_cons];omega
 |trans _ _ h1 h2=>exact h1.trans h2
theorem Zqn {a b:List Prt} (h:a.Perm b):sA a=sA b:=Zer (h.map Prt.amt)
def valP (neg:Bool) (left:Int) (k:Nat) (p:Prt):Int:=
 if neg=true then-(if (k:Int)<left then p.amt+1 else p.amt) else (if (k:Int)<left then p.amt+1 else p.amt)
def putL (neg:Bool) (left:Int):Nat->List Prt->List Int->List Int
 |_,[],L=>L
 |k,p::r,L=>putL neg left (k+1) r (L.set p.idx.toNat (valP neg left k p))
theorem Zhx (neg:Bool) (left:Int):∀(P:List Prt) (k:Nat) (L:List Int),(putL neg left k P L).length=L.length
 | [],k,L=>rfl
 |p::r,k,L=>by
  show (putL neg left (k+1) r _).length=_
  rw [Zhx neg left r,List.length_set]
theorem Zcr (neg:Bool) (left:Int):∀(P:List Prt) (k:Nat) (L:List Int) (i:Nat),(∀p∈P,p.idx.toNat≠i)->(putL neg left k P L)[i]? =L[i]?
 | [],k,L,i,_=>rfl
 |p::r,k,L,i,h=>by
  show (putL neg left (k+1) r _)[i]? =_
  rw [Zcr neg left r (k+1) _ i fun q hq=>h q (by simp [hq]),List.getElem?_set_ne (h p (by simp))]
theorem Zhy (neg:Bool) (left:Int):∀(P:List Prt) (k:Nat) (L:List Int) (j:Nat) (p:Prt),P[j]? =some p->P.Pairwise (fun x y=>x.idx.toNat≠y.idx.toNat)->p.idx.toNat<L.length->
 (putL neg left k P L)[p.idx.toNat]? =some (valP neg left (k+j) p)
 | [],k,L,j,p,h,_,_=>by cases h
 |q::r,k,L,0,p,h,hd,hl=>by
  cases h
  show (putL neg left (k+1) r _)[_]? =_
  rw [Zcr neg left r (k+1) _ _ fun q hq=>Ne.symm ((List.pairwise_cons.1 hd).1 q hq),List.getElem?_set_self hl]
  rfl
 |q::r,k,L,j+1,p,h,hd,hl=>by
  show (putL neg left (k+1) r _)[_]? =_
  rw [Zhy neg left r (k+1) _ j p h (List.pairwise_cons.1 hd).2 (by rw [List.length_set];exact hl),show k+1+j=k+(j+1) by omega]
def Zes (neg:Bool) (left:Int):Nat->List Prt->List Int
 |_,[]=> []
 |k,p::r=>valP neg left k p::Zes neg left (k+1) r
theorem Zet (neg:Bool) (left:Int):∀(P:List Prt) (k j:Nat),(Zes neg left k P)[j]? =(P[j]?).map (valP neg left (k+j))
 | [],k,j=>rfl
 |p::r,k,0=>rfl
 |p::r,k,j+1=>by
  show (Zes neg left (k+1) r)[j]? =_
  rw [Zet neg left r (k+1) j,show k+1+j=k+(j+1) by omega]
  rfl
theorem Zeu (neg:Bool) (left:Int):∀(P:List Prt) (k:Nat),(k:Int)<=left->left<=k+P.length->(Zes neg left k P).sum=(if neg=true then-(sA P+(left-k)) else sA P+(left-k))
 | [],k,h1,h2=>by
  have:left=k:=by simp at h2;omega
  subst this
  show (0:Int)=_
  split<;>simp [sA]
 |p::r,k,h1,h2=>by
  have hs:sA (p::r)=p.amt+sA r:=by simp [sA]
  show valP neg left k p+(Zes neg left (k+1) r).sum=_
  rw [hs]
  rw [List.length_cons] at h2
  by_cases hk:(k:Int)<left
  · rw [Zeu neg left r (k+1) (by omega) (by omega)]
    unfold valP
    rw [if_pos hk]
    split<;>omega
  · have he:left=k:=by omega
    have hz:∀(Q:List Prt) (m:Nat),left<(m:Int)->(Zes neg left m Q).sum=(if neg=true then-(sA Q) else sA Q):=by
     intro Q
     induction Q with
     |nil=>intro m _;show (0:Int)=_;split<;>simp [sA]
     |cons q Q ih=>
      intro m hm
      have hs:sA (q::Q)=q.amt+sA Q:=by simp [sA]
      show valP neg left m q+(Zes neg left (m+1) Q).sum=_
      rw [ih (m+1) (by omega),hs]
      unfold valP
      rw [if_neg (show ¬((m:Int)<left) by omega)]
      split<;>omega
    rw [hz r (k+1) (by omega)]
    unfold valP
    rw [if_neg hk]
    split<;>omega
def outP (neg:Bool) (A:Int) (ws:List Int):List Int:=
 putL neg (A-sA (mkP A ws.sum 0 ws)) 0 (srtU Prt.rest Prt.idx (mkP A ws.sum 0 ws)) (List.replicate ws.length 0)
structure ShareOk (neg:Bool) (A:Int) (ws R:List Int):Prop where
 len:R.length=ws.length
 sum:R.sum=if neg=true then-A else A
 val:∃inc:Nat->Bool,(∀i w,ws[i]? =some w->R[i]? =some (if neg=true then-(A*w/ws.sum+(if inc i=true then 1 else 0)) else A*w/ws.sum+(if inc i=true then 1 else 0)))/\
  ∀i j v w,ws[i]? =some v->ws[j]? =some w->inc i=true->inc j=false->A*w%ws.sum<A*v%ws.sum\/(A*v%ws.sum=A*w%ws.sum/\i<j)
theorem Zcs {A:Int} {ws:List Int} (hA:0<=A) (hS:0<ws.sum):0<=A-sA (mkP A ws.sum 0 ws)/\A-sA (mkP A ws.sum 0 ws)<ws.length:=by
 have e:=Zgi A ws.sum 0 ws
 have hb:=Zdh (S:=ws.sum) (mkP A ws.sum 0 ws) fun p hp=>by
  obtain ⟨i,w,h1,rfl⟩:=Wd hp
  exact ⟨Int.emod_nonneg _ (by omega),Int.emod_lt_of_pos _ hS⟩
 rw [Us] at hb
 have hn:ws≠ []:=by rintro rfl;exact absurd hS (by simp)
 have hn:0<ws.length:=List.length_pos_iff.2 hn
 generalize sA (mkP A ws.sum 0 ws)=a at*
 generalize sR (mkP A ws.sum 0 ws)=r at*
 generalize ws.sum=S at*
 have e2:(A-a)*S=r:=by rw [Int.sub_mul];omega
 constructor
 · have:0<=(A-a)*S:=by omega
   exact Int.le_of_mul_le_mul_right (by rw [Int.zero_mul];exact this) hS
 · have h3:(A-a)*S<ws.length*S:=by
    have:(ws.length:Int)*(S-1)=ws.length*S-ws.length:=by rw [Int.mul_sub,Int.mul_one]
    omega
   exact Int.lt_of_mul_lt_mul_right h3 (by omega)
theorem Zqo {neg:Bool} {A:Int} {ws:List Int} (hA:0<=A) (hS:0<ws.sum):ShareOk neg A ws (outP neg A ws):=by
 obtain ⟨l0,l1⟩:=Zcs hA hS
 have hsrt:Srt Prt.rest Prt.idx (srtU Prt.rest Prt.idx (mkP A ws.sum 0 ws)):=Y4 (Zgj A ws.sum 0 ws)
 have hperm:=Zo (kl:=Prt.rest) (ix:=Prt.idx) (mkP A ws.sum 0 ws)
 have hlenP:(srtU Prt.rest Prt.idx (mkP A ws.sum 0 ws)).length=ws.length:=by rw [Y3,Us]
 have hsA:=Zqn hperm
 unfold outP
 have hidx:∀p∈srtU Prt.rest Prt.idx (mkP A ws.sum 0 ws),∃(i:Nat) (w:Int),ws[i]? =some w/\p=⟨(i:Int),A*w/ws.sum,A*w%ws.sum⟩:=by
  intro p hp
  obtain ⟨i,w,h1,h2⟩:=Wd (hperm.mem_iff.1 hp)
  exact ⟨i,w,h1,by rw [h2,Nat.zero_add]⟩
 have hpos:∀(i:Nat) (w:Int),ws[i]? =some w->∃j:Nat,(srtU Prt.rest Prt.idx (mkP A ws.sum 0 ws))[j]? =some (Prt.mk (i:Int) (A*w/ws.sum) (A*w%ws.sum)):=by
  intro i w h
  have h1:(mkP A ws.sum 0 ws)[i]? =some ⟨(i:Int),A*w/ws.sum,A*w%ws.sum⟩:=by rw [Zgh,h,Nat.zero_add];rfl
  exact List.mem_iff_getElem?.1 (hperm.mem_iff.2 (List.mem_iff_getElem?.2 ⟨i,h1⟩))
 have hdist:(srtU Prt.rest Prt.idx (mkP A ws.sum 0 ws)).Pairwise fun x y=>x.idx.toNat≠y.idx.toNat:=by
  have hd:Dix Prt.idx (srtU Prt.rest Prt.idx (mkP A ws.sum 0 ws)):=(Zgj A ws.sum 0 ws).perm hperm.symm
  refine List.Pairwise.imp_of_mem ?_ hd
  intro x y hx hy h
  obtain ⟨i,w,_,rfl⟩:=hidx x hx
  obtain ⟨j,v,_,rfl⟩:=hidx y hy
  have h:(i:Int)≠(j:Int):=h
  show (i:Int).toNat≠(j:Int).toNat
  omega
 generalize hleft:A-sA (mkP A ws.sum 0 ws)=left at*
 generalize srtU Prt.rest Prt.idx (mkP A ws.sum 0 ws)=P at*
 have hput:∀j p,P[j]? =some p->(putL neg left 0 P (List.replicate ws.length 0))[p.idx.toNat]? =some (valP neg left j p):=by
  intro j p hj
  have:=Zhy neg left P 0 (List.replicate ws.length 0) j p hj hdist (by
   obtain ⟨i,w,h1,rfl⟩:=hidx p (List.mem_iff_getElem?.2 ⟨j,hj⟩)
   rw [List.length_replicate]
   show (i:Int).toNat<_
   rw [Int.toNat_natCast]
   exact (gA9.1 h1).1)
  rwa [Nat.zero_add] at this
 have hlen:(putL neg left 0 P (List.replicate ws.length 0)).length=ws.length:=by rw [Zhx,List.length_replicate]
 refine ⟨hlen,?_,?_⟩
 · --the sum
   have e1:putL neg left 0 P (List.replicate ws.length 0)=(mkP A ws.sum 0 ws).map fun p=>(putL neg left 0 P (List.replicate ws.length 0)).getD p.idx.toNat 0:=by
    apply List.ext_getElem?
    intro i
    rw [List.getElem?_map,Zgh]
    by_cases hi:i<ws.length
    · rw [gB9 hi,gB9 (by rw [hlen];exact hi)]
      simp [List.getD_eq_getElem?_getD,gB9 (show i<(putL neg left 0 P (List.replicate ws.length 0)).length by rw [hlen];exact hi)]
    · rw [List.getElem?_eq_none (by rw [hlen];omega),List.getElem?_eq_none (by omega)]
      rfl
   have e2:(P.map fun p=>(putL neg left 0 P (List.replicate ws.length 0)).getD p.idx.toNat 0)=Zes neg left 0 P:=by
    apply List.ext_getElem?
    intro j
    rw [List.getElem?_map,Zet]
    cases hj:P[j]? with
    |none=>rfl
    |some p=>
     show some ((putL neg left 0 P (List.replicate ws.length 0)).getD p.idx.toNat 0)=_
     rw [List.getD_eq_getElem?_getD,hput j p hj,Nat.zero_add]
     rfl
   have e3:=Zer (hperm.map fun p=>(putL neg left 0 P (List.replicate ws.length 0)).getD p.idx.toNat 0)
   rw [e2,<-e1,Zeu neg left P 0 l0 (by rw [hlenP];omega),hsA] at e3
   rw [<-e3,<-hleft]
   split<;>simp<;>omega
 · refine ⟨fun i=>P.zipIdx.any fun q=>decide (q.1.idx=(i:Int))&&decide ((q.2:Int)<left),?_,?_⟩
   · intro i w hi
     obtain ⟨j,hj⟩:=hpos i w hi
     have h1:=hput j _ hj
     have h1:(putL neg left 0 P (List.replicate ws.length 0))[i]? =some (valP neg left j ⟨(i:Int),A*w/ws.sum,A*w%ws.sum⟩):=h1
     rw [h1]
     have hinc:(P.zipIdx.any fun q=>decide (q.1.idx=(i:Int))&&decide ((q.2:Int)<left))=decide ((j:Int)<left):=by
      rw [Bool.eq_iff_iff,List.any_eq_true]
      constructor
      · rintro ⟨⟨q,k⟩,hq,h2⟩
        rw [List.mem_zipIdx_iff_getElem?] at hq
        simp only [Bool.and_eq_true,decide_eq_true_eq] at h2⊢
        have hkj:k=j:=by
         rcases Nat.lt_trichotomy k j with h|h|h
         · exfalso
           have:=(List.pairwise_iff_getElem.1 hdist) k j (gA9.1 hq).1 (gA9.1 hj).1 h
           rw [(gA9.1 hq).2,(gA9.1 hj).2,h2.1] at this
           exact this rfl
         · exact h
         · exfalso
           have:=(List.pairwise_iff_getElem.1 hdist) j k (gA9.1 hj).1 (gA9.1 hq).1 h
           rw [(gA9.1 hq).2,(gA9.1 hj).2,h2.1] at this
           exact this rfl
        rw [<-hkj]
        exact h2.2
      · intro h
        refine ⟨(_,j),List.mem_zipIdx_iff_getElem?.2 hj,?_⟩
        simp only [Bool.and_eq_true,decide_eq_true_eq] at h⊢
        exact ⟨trivial,h⟩
     show _=some (if neg=true then-(A*w/ws.sum+(if (P.zipIdx.any fun q=>decide (q.1.idx=(i:Int))&&decide ((q.2:Int)<left))=true then 1 else 0)) else A*w/ws.sum+(if (P.zipIdx.any fun q=>decide (q.1.idx=(i:Int))&&decide ((q.2:Int)<left))=true then 1 else 0))
     rw [hinc]
     unfold valP
     congr 1
     by_cases hl:(j:Int)<left
     · simp [hl]
     · simp [hl]
   · intro i j v w hi hj h1 h2
     have h1:(P.zipIdx.any fun q=>decide (q.1.idx=(i:Int))&&decide ((q.2:Int)<left))=true:=h1
     have h2:(P.zipIdx.any fun q=>decide (q.1.idx=(j:Int))&&decide ((q.2:Int)<left))=false:=h2
     obtain ⟨a,ha⟩:=hpos i v hi
     obtain ⟨b,hb⟩:=hpos j w hj
     simp only [List.any_eq_true,List.any_eq_false] at h1 h2
     obtain ⟨⟨q,k⟩,hq,h1⟩:=h1
     rw [List.mem_zipIdx_iff_getElem?] at hq
     simp only [Bool.and_eq_true,decide_eq_true_eq] at h1
     have hb2:=h2 (_,b) (List.mem_zipIdx_iff_getElem?.2 hb)
     have hb3:left<=(b:Int):=by
      by_cases h:(b:Int)<left
      · exfalso
        refine hb2 ?_
        show (decide ((j:Int)=(j:Int))&&decide ((b:Int)<left))=true
        rw [decide_eq_true h,decide_eq_true rfl]
        rfl
      · omega
     obtain ⟨i',v',hi',rfl⟩:=hidx q (List.mem_iff_getElem?.2 ⟨k,hq⟩)
     have hii:i'=i:=by have:(i':Int)=i:=h1.1;omega
     subst hii
     rw [hi] at hi'
     cases hi'
     have:=(List.pairwise_iff_getElem.1 hsrt) k b (gA9.1 hq).1 (gA9.1 hb).1 (by omega)
     rw [(gA9.1 hq).2,(gA9.1 hb).2] at this
     rcases this with h|⟨h,h3⟩
     · exact .inl h
     · refine .inr ⟨h,?_⟩
       have h3:(i':Int)<j:=h3
       omega
end
section
open Go
def dN:Dc E Int:=dInt .i64
def dFun (f:Nat):Dc E Unit where
 dec v:=match v with| .fn (.func g) [] []=>(match Nat.beq g f with|true=>some ()|false=>none)|_=>none
 enc _:= .fn (.func f) [] []
 ok v a h:=by
  split at h
  · split at h
    · rename_i e
      obtain rfl:=gC9 e
      exact ⟨rfl,rfl,fun _ _ _ h=>h⟩
    · cases h
  · cases h
end
section
open Go.RowKit
section
variable {Y:Thy} {E:Eng Y}
def inpR (th:Y.Th) (b:Nat) (l':List (Y.dom th)):Res Y:=⟨.tup [],0,[b],at1 b (some (.rows th l' 0)),some [b]⟩
def InpC (E:Eng Y) (f:Nat) (th:Y.Th) (args:List (SV Y)) (l l':List (Y.dom th)):Prop:=
 ∀(b:Nat) (h:Hp Y) (i:Nat),h b=some (.rows th l 0)->Zbq E f (.sl b 0 l.length (E.w th) none::args) h i (inpR th b l')
def inpK (th:Y.Th) (l l':List (Y.dom th)) (r:Res Y):Prop:=
 match r.v,patch (hp1 th l 0) 1 r 0 with
 | .tup [],some (.rows th' L fz')=>Vu L fun L=>L=l'/\fz'=0
 |_,_=>False
theorem Y7 (hE:EngOk E) {call:Nat->List (SV Y)->Hp Y->Nat->(Res Y->Prop)->Prop} (hcall:Uc E call) {f:Nat} {th:Y.Th} {args:List (SV Y)} {l l':List (Y.dom th)} (ha:nidL 0 args=true)
 (hk:call f (.sl 0 0 l.length (E.w th) none::args) (hp1 th l 0) 1 (inpK th l l')):InpC E f th args l l':=by
 intro b h i hb
 have hdom:DomLt (hp1 th l 0) 1:=by
  intro b hb
  cases b with
  |zero=>omega
  |succ b=>exact absurd rfl hb
 obtain ⟨r,hr,hR,htri⟩:=hcall f _ _ _ _ hdom hk
 have hmods:∀b∈r.mods,b=0:=by
  intro b hb
  cases b with
  |zero=>rfl
  |succ b=>exact absurd rfl (hR _ hb)
 unfold inpK at hr
 split at hr
 case h_2=>exact hr.elim
 rename_i th' L fz' hv hp0
 obtain ⟨e,hr⟩:=Ym hr
 subst e
 obtain ⟨rfl,rfl⟩:L=l'/\fz'=0:=hr
 replace htri:=htri.resolve_right (by rintro ⟨p,hp,_⟩;rw [hv] at hp;cases hp)
 intro B σ g W vals hh hrd hI hB hfree hd
 have hhb:hh b=some (.rows th' l 0):=(hrd b (show b∈ [b] by simp)).trans hb
 obtain ⟨q,z,hσ,hbo⟩:=hI.blk b _ hhb
 have hI1:Inv E B (fun x=>match x with|0=>some (q,z)|_=>none) (hp1 th' l 0) g W:=by
  refine ⟨hI.gc,hI.gm,fun x y hx=> ?_,fun x x' r z z' h1 h2 _ _=> ?_,fun x r' z' hs=> ?_,fun x y r' z' o v hx hs hv=> ?_,fun x y r' z' hx hs=> ?_,hI.glob⟩
  · cases x with
    |succ x=>cases hx
    |zero=>
     cases hx
     refine ⟨q,z,rfl,?_⟩
     obtain ⟨arr,e,k1,k2,k3,k4,k5⟩:=hbo
     refine ⟨arr,e,k1,k2,k3,fun j sv hj=> ?_,k5⟩
     obtain ⟨v,m1,m2⟩:=k4 j sv hj
     have hn:nid 0 sv=true:=by
      obtain ⟨q,p,x,rfl,hp,hq,hs⟩:=Yg hE th' _ hj
      exact Zq (hE.encI _ _ _) hs
     exact ⟨v,m1,Yi hE m2 (fun b p hb=>by omega) hn⟩
  · cases x with
    |succ x=>exact absurd rfl h1
    |zero=>cases x' with
     |zero=>rfl
     |succ x'=>exact absurd rfl h2
  · cases x with
    |zero=>cases hs;exact hI.base b _ _ hσ
    |succ x=>cases hs
  · cases x with
    |zero=>cases hs;cases hx;exact hI.fz b _ _ _ o v hhb hσ hv
    |succ x=>cases hx
  · cases x with
    |zero=>cases hs;cases hx;exact hI.fm b _ _ _ hhb hσ
    |succ x=>cases hx
 have hd1:DenL E (fun x=>match x with|0=>some (q,z)|_=>none) g (.sl 0 0 l.length (E.w th') none::args) vals.toList:=by
  refine ⟨by rw [<-hd.1];rfl,fun j sv u h1 h2=> ?_⟩
  cases j with
  |zero=>
   simp at h1;subst h1
   have:=hd.2 0 _ u rfl h2
   obtain ⟨r',z',c',rfl,k1,k2,k3,k4,k5⟩:=Wc this
   rw [hσ] at k1;cases k1
   exact .sl (E:=E) (b:=0) rfl k2 k3 k4 k5
  |succ j=>
   have h1:args[j]? =some sv:=by simpa using h1
   exact Yi hE (hd.2 (j+1) sv u (by simpa using h1) h2) (fun b p hb=>by omega) (Zq ha h1)
 refine (htri B _ g W vals _ (fun _ _=>rfl) hI1 hB (fun x h1 h2=>by cases x with|zero=>omega|succ x=>rfl) hd1).mono ?_
 rintro en w' ⟨u,he,σ1,g',hS,hI',hv'⟩
 rw [hv] at hv'
 have k1:σ1 0=some (q,z):=hS.sig 0 _ rfl
 have hheap:∀p,p<W.heap.size->p≠q->w'.heap[p]? =W.heap[p]? :=by
  intro p hp hne
  refine hS.heap p hp fun b' hb' z' hz'=> ?_
  obtain rfl:=hmods b' hb'
  cases hz'
  exact hne rfl
 have hpatch:∀x,patch hh i (inpR (Y:=Y) th' b L) x=match Nat.beq x b with|true=>some (.rows th' L 0)|false=>hh x:=by
  intro x
  show (match memB x [b]||(Nat.ble i x&&Nat.blt x (i+0)) with|true=>at1 b (some (.rows th' L 0)) x|false=>hh x)=_
  have e2:(Nat.ble i x&&Nat.blt x (i+0))=false:=by
   cases h1:Nat.ble i x with
   |false=>rfl
   |true=>
    rw [Nat.ble_eq] at h1
    cases h2:Nat.blt x (i+0) with
    |false=>rfl
    |true=>rw [Nat.blt_eq] at h2;omega
  rw [e2,Bool.or_false]
  unfold memB memB
  cases e3:Nat.beq x b with
  |true=>unfold at1;rw [e3]
  |false=>rfl
 have src:∀x y,patch hh i (inpR (Y:=Y) th' b L) x=some y->(x=b/\y= .rows th' L 0)\/(x≠b/\hh x=some y):=by
  intro x y hy
  rw [hpatch] at hy
  split at hy
  · rename_i e
    cases hy
    exact .inl ⟨gC9 e,rfl⟩
  · rename_i e
    exact .inr ⟨nb e,hy⟩
 have far:∀x y p z',x≠b->hh x=some y->σ x=some (p,z')->p<W.heap.size/\p≠q:=by
  intro x y p z' hx hy hs
  refine ⟨(hI.base x p z' hs).2,?_⟩
  rintro rfl
  exact hx (hI.inj x b _ _ _ (by rw [hy];simp) (by rw [hhb];simp) hs hσ)
 refine ⟨_,he,σ,g',⟨.refl _,fun _ _ h=> .inl h,hS.gle,fun p o v hv=> ?_,hS.gmnew,fun p hp hne=> ?_,hS.size,hS.os,hS.tape,hS.output,fun _ _ _ h k=>by rw [h] at k;cases k⟩,?_,?_⟩
 · rcases hS.gcnew p o v hv with h1|h1|⟨b',h1,z',h2⟩
   · exact .inl h1
   · exact .inr (.inl h1)
   · obtain rfl:=hmods b' h1
     cases h2
     exact .inr (.inr ⟨b,by show b∈ [b];simp,_,hσ⟩)
 · exact hheap p hp fun e=>hne b (by show b∈ [b];simp) z (by rw [hσ,e])
 · refine ⟨hI'.gc,hI'.gm,fun x y hx=> ?_,fun x x' p z1' z2' h1 h2 h3 h4=> ?_,fun x p z' hs=>⟨(hI.base x p z' hs).1,Nat.lt_of_lt_of_le (hI.base x p z' hs).2 hS.size⟩,fun x y p z' o v hx hs hv=> ?_,fun x y p z' hx hs=> ?_,hI'.glob⟩
   · rcases src x y hx with ⟨rfl,rfl⟩|⟨e1,e3⟩
     · refine ⟨q,z,hσ,?_⟩
       obtain ⟨r2,z2,m1,m2⟩:=hI'.blk 0 _ hp0
       rw [k1] at m1;cases m1
       obtain ⟨arr,e,m1,m3,m4,m5,m6⟩:=m2
       refine ⟨arr,e,m1,m3,m4,fun j sv hj=> ?_,m6⟩
       obtain ⟨v,n1,n2⟩:=m5 j sv hj
       have hn:nid 0 sv=true:=by
        obtain ⟨q,p,x,rfl,hp,hq,hs⟩:=Yg hE th' _ hj
        exact Zq (hE.encI _ _ _) hs
       exact ⟨v,n1,Yi hE n2 (fun b p hb=>by omega) hn⟩
     · obtain ⟨p,z',m1,m2⟩:=hI.blk x y e3
       obtain ⟨m3,m4⟩:=far x y p z' e1 e3 m1
       exact ⟨p,z',m1,m2.mono (fun x p hx=>hx) hS.gle (hheap p m3 m4)⟩
   · obtain ⟨y,hy⟩:=Option.ne_none_iff_exists'.1 h1
     obtain ⟨y',hy'⟩:=Option.ne_none_iff_exists'.1 h2
     have hn:∀x y,patch hh i (inpR (Y:=Y) th' b L) x=some y->hh x≠none:=by
      intro x y hx
      rcases src x y hx with ⟨rfl,rfl⟩|⟨e1,e3⟩
      · rw [hhb];simp
      · rw [e3];simp
     exact hI.inj x x' p _ _ (hn _ _ hy) (hn _ _ hy') h3 h4
   · rcases src x y hx with ⟨rfl,rfl⟩|⟨e1,e3⟩
     · rw [hσ] at hs;cases hs
       exact hI'.fz 0 _ _ _ o v hp0 k1 hv
     · obtain ⟨m3,m4⟩:=far x y p z' e1 e3 hs
       rcases hS.gcnew p o v hv with h1|h1|⟨b',h1,z2,h2⟩
       · exact hI.fz x y p z' o v e3 hs h1
       · omega
       · obtain rfl:=hmods b' h1
         cases h2
         exact absurd rfl m4
   · rcases src x y hx with ⟨rfl,rfl⟩|⟨e1,e3⟩
     · rw [hσ] at hs;cases hs
       exact hI'.fm 0 _ _ _ hp0 k1
     · obtain ⟨m3,m4⟩:=far x y p z' e1 e3 hs
       cases hg':g'.obj p with
       |none=>rfl
       |some es=>
        rcases hS.gmnew p es hg' with k|k
        · rw [hI.fm x y p z' e3 hs] at k;cases k
        · omega
 · exact Yi hE hv' (fun b p hb=>by omega) (i:=0) rfl
theorem Zq3 {σ:Pl} {g:GH} {b off len w:Nat} {cap:Option Nat} {v:Value} (h:Den E σ g (.sl b off len w cap) v):Den E σ g (.sl b off len w none) v:=by
 cases h with
 |sl h hz hl hm hc=>exact .sl h hz hl hm fun _ h=>by cases h
def Zgz (E:Eng Y) (th:Y.Th) {α:Type} (d:DcL E α) (pre:List (Y.dom th)->α->Prop) (f:List (Y.dom th)->α->List (Y.dom th)):Sum Y:=fun args h i k=>
 match args with
 | .sl b 0 len w _::rest=>
  (match h b,d.dec rest,Nat.beq w (E.w th) with
  |some (.rows th' l 0),some x,true=>Vu l fun l=>(len=l.length/\pre l x)/\∀l',l'=f l x->k (inpR th b l')
  |_,_,_=>False)
 |_=>False
theorem InpC.of_dec {α:Type} {d:DcL E α} {f:Nat} {th:Y.Th} {args:List (SV Y)} {x:α} {l l':List (Y.dom th)} (hd:d.dec args=some x) (h:InpC E f th (d.enc x) l l'):∀(cap:Option Nat) (b:Nat) (hp:Hp Y) (i:Nat),hp b=some (.rows th l 0)->Zbq E f (.sl b 0 l.length (E.w th) cap::args) hp i (inpR th b l'):=by
 obtain ⟨k1,k2,k3⟩:=d.ok _ _ hd
 intro cap b hp i h1 B σ g w vals hh hrd hI hB hfree hden
 refine h b hp i h1 B σ g w vals hh hrd hI hB hfree ⟨?_,fun j sv' u h5 h6=> ?_⟩
 · rw [<-hden.1,List.length_cons,List.length_cons,k2]
 · cases j with
   |zero=>
    cases h5
    exact Zq3 (hden.2 0 _ u rfl h6)
   |succ j=>
    obtain ⟨sv,h7,h8⟩:=k3 σ g j sv' (by simpa using h5)
    exact h8 u (hden.2 (j+1) sv u (by simpa using h7) h6)
theorem W0 (hE:EngOk E) {th:Y.Th} {α:Type} {f:Nat} (hg:FnGood E.P f) {d:DcL E α} {pre:List (Y.dom th)->α->Prop} {F:List (Y.dom th)->α->List (Y.dom th)} (hp:∀x l,pre l x->InpC E f th (d.enc x) l (F l x)):SumOk E f (Zgz E th d pre F):=by
 refine ⟨hg,fun args h i k hD hk=> ?_⟩
 unfold Zgz at hk
 split at hk
 · rename_i b len w cap rest
   split at hk
   · rename_i th' l x hb hx hw
     have hw:=gC9 hw
     obtain ⟨e,hk2⟩:=Ym hk
     clear hk
     subst e
     subst hw
     obtain ⟨⟨rfl,h3⟩,hk3⟩:=hk2
     refine ⟨_,hk3 _ rfl,fun b' hb'=> ?_,.inl (InpC.of_dec hx (hp x l h3) cap b h i hb)⟩
     have hb':b'∈ [b]:=hb'
     rw [List.mem_singleton] at hb'
     rw [hb',hb];simp
   · exact hk.elim
 · exact hk.elim
end
end
section
open Go Go.RowKit
def cmpI (a b:Int):Int:=if a<b then-1 else if b<a then 1 else 0
theorem Zol (a b:Int) (v:Int):Yf E F9 (vc E F9 400) 31 [.int false .u64 a,.int false .u64 b] hp0 0 (fun r=>ret E (patch hp0 0 r) r.v (.int false .i64 v))=(
((a !=a)=true->((b !=b)=true->(0:Int)=v)/\((b !=b)=false->(-1:Int)=v))/\((a !=a)=false->((b !=b)=true->(1:Int)=v)/\((b !=b)=false->(decide (a<b)=true->(-1:Int)=v)/\(decide (a<b)=false->(decide (a>b)=true->(1:Int)=v)/\(decide (a>b)=false->(0:Int)=v))))):=by kernel_rfl
theorem Zom (a b:Int):PureC E 31 [.int false .u64 a,.int false .u64 b] (.int false .i64 (cmpI a b)):=by
 refine Zg E_ok (Zm E_ok Zfa 400) ?_
 rw [Zol]
 unfold cmpI
 refine ⟨fun h=>(by simp at h),fun _=>⟨fun h=>(by simp at h),fun _=>⟨fun h=> ?_,fun h=>⟨fun h2=> ?_,fun h2=> ?_⟩⟩⟩⟩
 · rw [if_pos (of_decide_eq_true h)]
 · rw [if_neg (of_decide_eq_false h),if_pos (of_decide_eq_true h2)]
 · rw [if_neg (of_decide_eq_false h),if_neg (of_decide_eq_false h2)]
theorem Wm (a b:Int):cmpI a b<0↔a<b:=by
 unfold cmpI
 split
 · omega
 · split<;>omega
def Scm:Sum thy:=Zci (dL2 dU dU) (fun _=>True) (fun x=>cmpI x.1 x.2.1) fun y=> .int false .i64 y
theorem Zs0:SumOk E 31 Scm:=Xm E_ok (Zw (f:=31) rfl) fun x _=>Zom x.1 x.2.1
def F9c:Fns thy:=addS F9 31 Scm
theorem Zc2:FnsOk E F9c:=Zx Zfa Zs0
structure SoX where
 L:List Prt
 i:Int
 j:Int
 r:Nat
def cmpP:SV thy:= .fn (.func 30) [] []
def blkL (v:SV thy) (L:List Prt):List (Nat×Blk thy):= [(bOf v,.rows Th.parts L 0)]
def Ais1:Fr thy->Hp thy->Nat->Ann thy:=fun T h i=>{X:=SoX,fr:=fun x=> [(0,T 0),(1,T 1),(2,T 2),(3,T 3),(8,.int false .i64 x.i)],bl:=fun x=>blkL (T 0) x.L,src:=fun _=> [],md:= [bOf (T 0)],ih:=i,M:=i+30,meas:=fun x=>x.r}
def Ais2:Fr thy->Hp thy->Nat->Ann thy:=fun T h i=>{X:=SoX,fr:=fun x=> [(0,T 0),(1,T 1),(2,T 2),(3,T 3),(8,T 8),(9,.int false .i64 x.j)],bl:=fun x=>blkL (T 0) x.L,src:=fun _=> [],md:= [bOf (T 0)],ih:=i,M:=i+30,meas:=fun x=>x.r}
def Fis:Fns thy:=addL (addL F9c 67 1 Ais1 E) 67 4 Ais2 E
theorem Zs1:FnsOk E Fis:=Zp E_ok (Zp E_ok Zc2 _ _ _) _ _ _
theorem Zon (l l2:List Prt) (a b:Int):Yf E Fis (vc E Fis 400) 67 [.sl 0 0 (List.length l) (E.w Th.parts) none,.int false .i64 a,.int false .i64 b,cmpP] (hp1 Th.parts l 0) 1 (inpK Th.parts l l2)=(
 ∃(R:SoX->Prop),(∃(x:SoX),R x/\true=true/\(((0:Nat)=(0:Nat)/\List.length l=List.length l/\True)/\a=a/\b=b/\(Fn.func (30:
 FuncId)=Fn.func (30:FuncId)/\True/\True)/\wr IntKind.i64 (a+(1:Int))=SoX.i x/\True)/\(l=SoX.L x/\(0:Nat)=(0:Nat))/\True)/\∀(x:
 SoX),R x->(decide (SoX.i x<b)=true->∃(R_1:SoX->Prop),(∃(x_1:SoX),R_1 x_1/\true=true/\(((0:Nat)=(0:Nat)/\List.length l=List.length l/\True)/\a=a/\b
 =b/\(Fn.func (30:FuncId)=Fn.func (30:FuncId)/\True/\True)/\SoX.i x=SoX.i x/\SoX.i x=SoX.j x_1/\True)/\(SoX.L x
 =SoX.L x_1/\(0:Nat)=(0:Nat))/\True)/\∀(x_1:SoX),R_1 x_1->(decide (SoX.j x_1>a)=true->((0:Int)<=SoX.j x_1/\SoX.j x_1+(1:Int)<=(↑(List.length l):Int))
 /\(0:Nat)+Int.toNat (SoX.j x_1)+(1:Nat)<=List.length (SoX.L x_1)/\∀(x_2:Prt),(SoX.L x_1)[(0:Nat)+Int.toNat (SoX.j x_1)]? =some x_2->((0:Int)<=wr IntKind.i64
 (SoX.j x_1-(1:Int))/\wr IntKind.i64 (SoX.j x_1-(1:Int))+(1:Int)<=(↑(List.length l):Int))/\(0:Nat)+Int.toNat (wr IntKind.i64 (SoX.j x_1-(1:Int)))+(1:
 Nat)<=List.length (SoX.L x_1)/\∀(x_3:Prt),(SoX.L x_1)[(0:Nat)+Int.toNat (wr IntKind.i64 (SoX.j x_1-(1:Int)))]? =some x_3->True/\∀(y:Int),y=cmpI (Prt.rest
 x_3) (Prt.rest x_2)->(decide (y<(0:Int))=true->((0:Int)<=wr IntKind.i64 (SoX.j x_1-(1:Int))/\wr IntKind.i64 (SoX.j x_1-(1:Int))+(1:Int)<=(↑(List.length l)
 :Int))/\(0:Nat)+Int.toNat (wr IntKind.i64 (SoX.j x_1-(1:Int)))+(1:Nat)<=List.length (SoX.L x_1)/\∀(x_4:Prt),(SoX.L x_1)[(0:Nat)+Int.toNat (wr IntKind.i64
 (SoX.j x_1-(1:Int)))]? =some x_4->((0:Int)<=SoX.j x_1/\SoX.j x_1+(1:Int)<=(↑(List.length l):Int))/\(0:Nat)+Int.toNat (SoX.j x_1)+(1:Nat)<=List.length
 (SoX.L x_1)/\∀(x_5:Prt),(SoX.L x_1)[(0:Nat)+Int.toNat (SoX.j x_1)]? =some x_5->((0:Int)<=SoX.j x_1/\SoX.j x_1+(1:Int)<=(↑(List.length l):Int))/\(0:Nat)<=
 (0:Nat)+Int.toNat (SoX.j x_1)/\(0:Nat)+Int.toNat (SoX.j x_1)+(1:Nat)<=List.length (SoX.L x_1)/\∀(x_6:Prt),(SoX.L x_1)[(0:Nat)+Int.toNat (SoX.j x_1)]? =some
 x_6->((0:Int)<=wr IntKind.i64 (SoX.j x_1-(1:Int))/\wr IntKind.i64 (SoX.j x_1-(1:Int))+(1:Int)<=(↑(List.length l):Int))/\(0:Nat)<=(0:Nat)+Int.toNat (wr
 IntKind.i64 (SoX.j x_1-(1:Int)))/\(0:Nat)+Int.toNat (wr IntKind.i64 (SoX.j x_1-(1:Int)))+(1:Nat)<=List.length (List.set (SoX.L x_1) ((0:Nat)+Int.toNat (SoX.j
 x_1)) x_4)/\∀(x_7:Prt),(List.set (SoX.L x_1) ((0:Nat)+Int.toNat (SoX.j x_1)) x_4)[(0:Nat)+Int.toNat (wr IntKind.i64 (SoX.j x_1-(1:Int)))]? =some x_7->∃(x_8:
 SoX),R_1 x_8/\x_8.4+(1:Nat)<=x_1.4/\true=true/\(((0:Nat)=(0:Nat)/\List.length l=List.length l/\True)/\a=a/\b=b/\(Fn.func (30:FuncId)=Fn.func (30:FuncId)/\True/\True)/\SoX.i x=SoX.i x/\wr IntKind.i64 (SoX.j x_1-(1:Int))=SoX.j x_8/\True)/\(List.set (List.set (SoX.L x_1) ((0:Nat)+Int.toNat (SoX.j x_1)) x_4)
 ((0:Nat)+Int.toNat (wr IntKind.i64 (SoX.j x_1-(1:Int)))) x_5=SoX.L x_8/\(0:Nat)=(0:Nat))/\True)/\(decide (y<(0:Int))=false->∃(x_4:SoX),R x_4/\x_4.4+
 (1:Nat)<=x.4/\true=true/\(((0:Nat)=(0:Nat)/\List.length l=List.length l/\True)/\a=a/\b=b/\(Fn.func (30:FuncId)=Fn.func
 (30:FuncId)/\True/\True)/\wr IntKind.i64 (SoX.i x+(1:Int))=SoX.i x_4/\True)/\(SoX.L x_1=SoX.L x_4/\(0:Nat)=(0:Nat))/\True))/\
 (decide (SoX.j x_1>a)=false->∃(x_2:SoX),R x_2/\x_2.4+(1:Nat)<=x.4/\true=true/\(((0:Nat)=(0:Nat)/\List.length l=List.length l/\True)/\a=a/\b=b/\
 (Fn.func (30:FuncId)=Fn.func (30:FuncId)/\True/\True)/\wr IntKind.i64 (SoX.i x+(1:Int))=SoX.i x_2/\True)/\
 (SoX.L x_1=SoX.L x_2/\(0:Nat)=(0:Nat))/\True))/\(decide (SoX.i x<b)=false->SoX.L x=l2/\(0:Nat)=(0:Nat))
 ):=by kernel_rfl
def Asr:Fr thy->Hp thy->Nat->Ann thy:=fun T h i=>{X:=SoX,fr:=fun x=> [(0,T 0),(1,T 1),(2,T 2),(3,T 3),(4,T 4),(10,.int false .i64 x.i)],bl:=fun x=>blkL (T 0) x.L,src:=fun _=> [],md:= [bOf (T 0)],ih:=i,M:=i+30,meas:=fun x=>x.r}
def Fsr:Fns thy:=addL F9c 105 1 Asr E
theorem Zs2:FnsOk E Fsr:=Zp E_ok Zc2 _ _ _
theorem Zs3 (l l2:List Prt) (a b n:Int):Yf E Fsr (vc E Fsr 400) 105 [.sl 0 0 (List.length l) (E.w Th.parts) none,.int false .i64 a,.int false .i64 b,.int false .i64 n,cmpP] (hp1 Th.parts l 0) 1 (inpK Th.parts l l2)=(
 ∃(R:SoX->Prop),(∃(x:SoX),R x/\true=true/\(((0:Nat)=(0:Nat)/\List.length l=List.length l/\True)/\a=a/\b=b/\n=n/\(Fn.func
 (30:FuncId)=Fn.func (30:FuncId)/\True/\True)/\(0:Int)=SoX.i x/\True)/\(l=SoX.L x/\(0:Nat)=(0:Nat))/\
 True)/\∀(x:SoX),R x->(decide (SoX.i x<n)=true->((0:Int)<=wr IntKind.i64 (b+SoX.i x)/\wr IntKind.i64 (b+SoX.i x)+(1:Int)<=(↑(List.length l):Int))/\(0:
 Nat)+Int.toNat (wr IntKind.i64 (b+SoX.i x))+(1:Nat)<=List.length (SoX.L x)/\∀(x_1:Prt),(SoX.L x)[(0:Nat)+Int.toNat (wr IntKind.i64 (b+SoX.i x))]? =some x_1->
 ((0:Int)<=wr IntKind.i64 (a+SoX.i x)/\wr IntKind.i64 (a+SoX.i x)+(1:Int)<=(↑(List.length l):Int))/\(0:Nat)+Int.toNat (wr IntKind.i64 (a+SoX.i x))+(1:Nat)
 <=List.length (SoX.L x)/\∀(x_2:Prt),(SoX.L x)[(0:Nat)+Int.toNat (wr IntKind.i64 (a+SoX.i x))]? =some x_2->((0:Int)<=wr IntKind.i64 (a+SoX.i x)/\wr IntKind.i64 (a
 +SoX.i x)+(1:Int)<=(↑(List.length l):Int))/\(0:Nat)<=(0:Nat)+Int.toNat (wr IntKind.i64 (a+SoX.i x))/\(0:Nat)+Int.toNat (wr IntKind.i64 (a+SoX.i x))+(1:
 Nat)<=List.length (SoX.L x)/\∀(x_3:Prt),(SoX.L x)[(0:Nat)+Int.toNat (wr IntKind.i64 (a+SoX.i x))]? =some x_3->((0:Int)<=wr IntKind.i64 (b+SoX.i x)/\wr
 IntKind.i64 (b+SoX.i x)+(1:Int)<=(↑(List.length l):Int))/\(0:Nat)<=(0:Nat)+Int.toNat (wr IntKind.i64 (b+SoX.i x))/\(0:Nat)+Int.toNat (wr IntKind.i64 (b+
 SoX.i x))+(1:Nat)<=List.length (List.set (SoX.L x) ((0:Nat)+Int.toNat (wr IntKind.i64 (a+SoX.i x))) x_1)/\∀(x_4:Prt),(List.set (SoX.L x) ((0:Nat)+Int.toNat (wr
 IntKind.i64 (a+SoX.i x))) x_1)[(0:Nat)+Int.toNat (wr IntKind.i64 (b+SoX.i x))]? =some x_4->∃(x_5:SoX),R x_5/\x_5.4+(1:Nat)<=x.4/\true=true/\(((0:Nat)=(0
 :Nat)/\List.length l=List.length l/\True)/\a=a/\b=b/\n=n/\(Fn.func (30:FuncId)=Fn.func (30:FuncId)/\True/\
 True)/\wr IntKind.i64 (SoX.i x+(1:Int))=SoX.i x_5/\True)/\(List.set (List.set (SoX.L x) ((0:Nat)+Int.toNat (wr IntKind.i64 (a+SoX.i x))) x_1) ((0:Nat)+Int.toNat
 (wr IntKind.i64 (b+SoX.i x))) x_2=SoX.L x_5/\(0:Nat)=(0:Nat))/\True)/\(decide (SoX.i x<n)=false->SoX.L x=l2/\(0:Nat)=(0:Nat))
 ):=by kernel_rfl
abbrev klP:Prt->Int:=Prt.rest
abbrev ixP:Prt->Int:=Prt.idx
def dCmp:Dc E Unit:=dFun 30
def dI3:DcL E (Int×Int×Int×Unit×Unit):= .cons dN (.cons dN (.cons dN (.cons dCmp .nil)))
def dI2c:DcL E (Int×Int×Unit×Unit):= .cons dN (.cons dN (.cons dCmp .nil))
def Zs4 (l:List Prt) (x:Int×Int×Int×Unit×Unit):Prop:=0<=x.1/\0<=x.2.2.1/\x.1+x.2.2.1<=x.2.1/\x.2.1+x.2.2.1<=l.length/\l.length<=1000000
def Ssr:Sum thy:=Zgz E Th.parts dI3 Zs4 fun l x=>swrF l x.1.toNat x.2.1.toNat x.2.2.1.toNat
def Aro:Fr thy->Hp thy->Nat->Ann thy:=fun T h i=>{X:=SoX,fr:=fun x=> [(0,T 0),(1,T 1),(2,T 2),(3,T 3),(4,T 4),(10,.int false .i64 x.i),(11,.int false .i64 x.j)],bl:=fun x=>blkL (T 0) x.L,src:=fun _=> [],md:= [bOf (T 0)],ih:=i,M:=i+30,meas:=fun x=>x.r}
def Fro:Fns thy:=addL (addS F9c 105 Ssr) 88 2 Aro E
theorem Zs5 (l l2:List Prt) (a m b:Int):Yf E Fro (vc E Fro 400) 88 [.sl 0 0 (List.length l) (E.w Th.parts) none,.int false .i64 a,.int false .i64 m,.int false .i64 b,cmpP] (hp1 Th.parts l 0) 1 (inpK Th.parts l l2)=(
 ∃(R:SoX->Prop),(∃(x:SoX),R x/\true=true/\(((0:Nat)=(0:Nat)/\List.length l=List.length l/\True)/\a=a/\m=m/\b=b/\(Fn.func
 (30:FuncId)=Fn.func (30:FuncId)/\True/\True)/\wr IntKind.i64 (m-a)=SoX.i x/\wr IntKind.i64 (b-m)=SoX.j x/\
 True)/\(l=SoX.L x/\(0:Nat)=(0:Nat))/\True)/\∀(x:SoX),R x->((SoX.i x !=SoX.j x)=true->(decide (SoX.i x>SoX.j x)=true->(List.length l=List.length (SoX.L
 x)/\(0:Int)<=wr IntKind.i64 (m-SoX.i x)/\(0:Int)<=SoX.j x/\wr IntKind.i64 (m-SoX.i x)+SoX.j x<=m/\m+SoX.j x<=(↑(List.length (SoX.L x)):Int)/\List.length
 (SoX.L x)<=(1000000:Nat))/\∀(l':List Prt),l'=swrF (SoX.L x) (Int.toNat (wr IntKind.i64 (m-SoX.i x))) (Int.toNat m) (Int.toNat (SoX.j x))->∃(x_1:SoX),R x_1/\x_1.4
 +(1:Nat)<=x.4/\true=true/\(((0:Nat)=(0:Nat)/\List.length l=List.length l/\True)/\a=a/\m=m/\b=b/\(Fn.func (30:FuncId)=
 Fn.func (30:FuncId)/\True/\True)/\wr IntKind.i64 (SoX.i x-SoX.j x)=SoX.i x_1/\SoX.j x=SoX.j x_1/\True)/\(l'=SoX.L x_1/\(0:Nat)=(0:
 Nat))/\True)/\(decide (SoX.i x>SoX.j x)=false->(List.length l=List.length (SoX.L x)/\(0:Int)<=wr IntKind.i64 (m-SoX.i x)/\(0:Int)<=SoX.i x/\wr IntKind.i64 (m-
 SoX.i x)+SoX.i x<=wr IntKind.i64 (wr IntKind.i64 (m+SoX.j x)-SoX.i x)/\wr IntKind.i64 (wr IntKind.i64 (m+SoX.j x)-SoX.i x)+SoX.i x<=(↑(List.length (SoX.L x)):Int)
 /\List.length (SoX.L x)<=(1000000:Nat))/\∀(l':List Prt),l'=swrF (SoX.L x) (Int.toNat (wr IntKind.i64 (m-SoX.i x))) (Int.toNat (wr IntKind.i64 (wr IntKind.i64 (m+SoX.j
 x)-SoX.i x))) (Int.toNat (SoX.i x))->∃(x_1:SoX),R x_1/\x_1.4+(1:Nat)<=x.4/\true=true/\(((0:Nat)=(0:Nat)/\List.length l=List.length l/\True)/\a=a/\m=
 m/\b=b/\(Fn.func (30:FuncId)=Fn.func (30:FuncId)/\True/\True)/\SoX.i x=SoX.i x_1/\wr IntKind.i64 (SoX.j x-
 SoX.i x)=SoX.j x_1/\True)/\(l'=SoX.L x_1/\(0:Nat)=(0:Nat))/\True))/\((SoX.i x !=SoX.j x)=false->(List.length l=List.length (SoX.L x)/\(0:Int)<=wr
 IntKind.i64 (m-SoX.i x)/\(0:Int)<=SoX.i x/\wr IntKind.i64 (m-SoX.i x)+SoX.i x<=m/\m+SoX.i x<=(↑(List.length (SoX.L x)):Int)/\List.length (SoX.L x)<=(1000000:
 Nat))/\∀(l':List Prt),l'=swrF (SoX.L x) (Int.toNat (wr IntKind.i64 (m-SoX.i x))) (Int.toNat m) (Int.toNat (SoX.i x))->l'=l2/\(0:Nat)=(0:Nat))
 ):=by kernel_rfl
def Zrb (l:List Prt) (x:Int×Int×Int×Unit×Unit):Prop:=0<=x.1/\x.1<x.2.1/\x.2.1<x.2.2.1/\x.2.2.1<=l.length/\l.length<=1000000
def Sro:Sum thy:=Zgz E Th.parts dI3 Zrb fun l x=>repl l x.1.toNat x.2.2.1.toNat (seg l x.2.1.toNat x.2.2.1.toNat++seg l x.1.toNat x.2.1.toNat)
def Zkd (N:Int) (l:List Prt) (x:Int×Int×Int×Unit×Unit):Prop:=0<=x.1/\x.1<x.2.1/\x.2.1<x.2.2.1/\x.2.2.1<=l.length/\l.length<=1000000/\x.2.2.1-x.1<N/\Mrg klP ixP (seg l x.1.toNat x.2.1.toNat) (seg l x.2.1.toNat x.2.2.1.toNat)
def smF (l:List Prt) (x:Int×Int×Int×Unit×Unit):List Prt:=repl l x.1.toNat x.2.2.1.toNat (srtU klP ixP (seg l x.1.toNat x.2.2.1.toNat))
def Ssm (N:Int):Sum thy:=Zgz E Th.parts dI3 (Zkd N) smF
def Asm1:Fr thy->Hp thy->Nat->Ann thy:=fun T h i=>{X:=SoX,fr:=fun x=> [(0,T 0),(1,T 1),(2,T 2),(3,T 3),(4,T 4),(10,.int false .i64 x.i),(11,.int false .i64 x.j)],bl:=fun x=>blkL (T 0) x.L,src:=fun _=> [],md:= [bOf (T 0)],ih:=i,M:=i+30,meas:=fun x=>x.r}
def Asm2:Fr thy->Hp thy->Nat->Ann thy:=fun T h i=>{X:=SoX,fr:=fun x=> [(0,T 0),(1,T 1),(2,T 2),(3,T 3),(4,T 4),(10,T 10),(13,.int false .i64 x.i)],bl:=fun x=>blkL (T 0) x.L,src:=fun _=> [],md:= [bOf (T 0)],ih:=i,M:=i+30,meas:=fun x=>x.r}
def Asm3:Fr thy->Hp thy->Nat->Ann thy:=fun T h i=>{X:=SoX,fr:=fun x=> [(0,T 0),(1,T 1),(2,T 2),(3,T 3),(4,T 4),(14,.int false .i64 x.i),(15,.int false .i64 x.j)],bl:=fun x=>blkL (T 0) x.L,src:=fun _=> [],md:= [bOf (T 0)],ih:=i,M:=i+30,meas:=fun x=>x.r}
def Asm4:Fr thy->Hp thy->Nat->Ann thy:=fun T h i=>{X:=SoX,fr:=fun x=> [(0,T 0),(1,T 1),(2,T 2),(3,T 3),(4,T 4),(14,T 14),(17,.int false .i64 x.i)],bl:=fun x=>blkL (T 0) x.L,src:=fun _=> [],md:= [bOf (T 0)],ih:=i,M:=i+30,meas:=fun x=>x.r}
def Asm5:Fr thy->Hp thy->Nat->Ann thy:=fun T h i=>{X:=SoX,fr:=fun x=> [(0,T 0),(1,T 1),(2,T 2),(3,T 3),(4,T 4),(18,T 18),(19,T 19),(20,.int false .i64 x.i),(21,.int false .i64 x.j),(22,T 22)],bl:=fun x=>blkL (T 0) x.L,src:=fun _=> [],md:= [bOf (T 0)],ih:=i,M:=i+30,meas:=fun x=>x.r}
def Fsm (N:Int):Fns thy:=addL (addL (addL (addL (addL (addS (addS F9c 88 Sro) 68 (Ssm N)) 68 3 Asm1 E) 68 9 Asm2 E) 68 15 Asm3 E) 68 21 Asm4 E) 68 33 Asm5 E
def Zs6:FuncId:=30
def X6 (z:Int):Int:=wr .i64 (Int.fdiv (wr .u64 (wr .i64 z)) ((2:Int)^min (Int.toNat (1:Int)) (IntKind.bits IntKind.u64)))
def frS (l:List Prt) (a m b:Int) (k:Prop):Prop:=((0:Nat)=0/\l.length=l.length/\True)/\a=a/\m=m/\b=b/\(Fn.func Zs6=Fn.func Zs6/\True/\True)/\k
def inS (l:List Prt) (a m b:Int) (R:SoX->Prop) (k:SoX->Prop) (L':List Prt):Prop:=∃x:SoX,R x/\true=true/\frS l a m b (k x)/\(L'=x.L/\(0:Nat)=0)/\True
def nxS (l:List Prt) (a m b:Int) (R:SoX->Prop) (r:Nat) (k:SoX->Prop) (L':List Prt):Prop:=∃y:SoX,R y/\y.r+1<=r/\true=true/\frS l a m b (k y)/\(L'=y.L/\(0:Nat)=0)/\True
def gtS (l L:List Prt) (i:Int) (k:Prt->Prop):Prop:=(0<=i/\i+1<=(l.length:Int))/\0+i.toNat+1<=L.length/\∀x:Prt,L[0+i.toNat]? =some x->k x
def puS (l L:List Prt) (i:Int) (v:Prt) (k:List Prt->Prop):Prop:=(0<=i/\i+1<=(l.length:Int))/\(0:Nat)<=0+i.toNat/\0+i.toNat+1<=L.length/\∀x:Prt,L[0+i.toNat]? =some x->k (L.set (0+i.toNat) v)
def swL (l:List Prt) (a m b t s:Int) (c:Int->Bool) (nx:Int->Int) (L l2:List Prt):Prop:=∃R:SoX->Prop,inS l a m b R (fun z=>t=t/\s=z.i/\True) L/\∀y:SoX,R y->
 (c y.i=true->gtS l y.L (nx y.i) fun u=>gtS l y.L y.i fun v=>puS l y.L y.i u fun L1=>puS l L1 (nx y.i) v fun L2=>nxS l a m b R y.r (fun z=>t=t/\nx y.i=z.i/\True) L2)/\(c y.i=false->y.L=l2/\(0:Nat)=0)
def smA (l:List Prt) (a m b:Int) (l2:List Prt):Prop:=∃R:SoX->Prop,inS l a m b R (fun z=>m=z.i/\b=z.j/\True) l/\∀x:SoX,R x->
 (decide (x.i<x.j)=true->gtS l x.L (X6 (x.i+x.j)) fun x1=>gtS l x.L a fun x2=>True/\∀y:Int,y=cmpI x2.rest x1.rest->(decide (y<0)=true->nxS l a m b R x.r (fun z=>wr .i64 (X6 (x.i+x.j)+1)=z.i/\x.j=z.j/\True) x.L)/\(decide (y<0)=false->nxS l a m b R x.r (fun z=>x.i=z.i/\X6 (x.i+x.j)=z.j/\True) x.L))/\
 (decide (x.i<x.j)=false->swL l a m b x.i a (fun k=>decide (k<wr .i64 (x.i-1))) (fun k=>wr .i64 (k+1)) x.L l2)
def smB (l:List Prt) (a m b:Int) (l2:List Prt):Prop:=∃R:SoX->Prop,inS l a m b R (fun z=>a=z.i/\m=z.j/\True) l/\∀x:SoX,R x->
 (decide (x.i<x.j)=true->gtS l x.L m fun x1=>gtS l x.L (X6 (x.i+x.j)) fun x2=>True/\∀y:Int,y=cmpI x2.rest x1.rest->(decide (y<0)=true->nxS l a m b R x.r (fun z=>x.i=z.i/\X6 (x.i+x.j)=z.j/\True) x.L)/\(decide (y<0)=false->nxS l a m b R x.r (fun z=>wr .i64 (X6 (x.i+x.j)+1)=z.i/\x.j=z.j/\True) x.L))/\
 (decide (x.i<x.j)=false->swL l a m b x.i m (fun k=>decide (k>x.i)) (fun k=>wr .i64 (k-1)) x.L l2)
def smT3 (N:Int) (l:List Prt) (b mid e:Int) (L l2:List Prt):Prop:=∃Q:Bool->Prop,((decide (mid<e)=true->(decide (e<b)=true->Q true)/\(decide (e<b)=false->Q false))/\(decide (mid<e)=false->Q false))/\
 (Q true->(l.length=L.length/\Zkd N L (mid,e,b,(),()))/\∀l':List Prt,l'=smF L (mid,e,b,(),())->l'=l2/\(0:Nat)=0)/\(Q false->L=l2/\(0:Nat)=0)
def smT2 (N:Int) (l:List Prt) (a b mid st e:Int) (L l2:List Prt):Prop:=∃Q:Bool->Prop,((decide (a<st)=true->(decide (st<mid)=true->Q true)/\(decide (st<mid)=false->Q false))/\(decide (a<st)=false->Q false))/\
 (Q true->(l.length=L.length/\Zkd N L (a,st,mid,(),()))/\∀l':List Prt,l'=smF L (a,st,mid,(),())->smT3 N l b mid e l' l2)/\(Q false->smT3 N l b mid e L l2)
def smT1 (N:Int) (l:List Prt) (a m b mid st e:Int) (L l2:List Prt):Prop:=∃Q:Bool->Prop,((decide (st<m)=true->(decide (m<e)=true->Q true)/\(decide (m<e)=false->Q false))/\(decide (st<m)=false->Q false))/\
 (Q true->(l.length=L.length/\Zrb L (st,m,e,(),()))/\∀l':List Prt,l'=repl L st.toNat e.toNat (seg L m.toNat e.toNat++seg L st.toNat m.toNat)->smT2 N l a b mid st e l' l2)/\(Q false->smT2 N l a b mid st e L l2)
def smC (N:Int) (l:List Prt) (a m b mid n p s0 r0:Int) (l2:List Prt):Prop:=∃R:SoX->Prop,inS l a m b R (fun z=>mid=mid/\n=n/\s0=z.i/\r0=z.j/\p=p/\True) l/\∀x:SoX,R x->
 (decide (x.i<x.j)=true->gtS l x.L (wr .i64 (p-X6 (x.i+x.j))) fun x1=>gtS l x.L (X6 (x.i+x.j)) fun x2=>True/\∀y:Int,y=cmpI x2.rest x1.rest->(decide (y<0)=true->nxS l a m b R x.r (fun z=>mid=mid/\n=n/\x.i=z.i/\X6 (x.i+x.j)=z.j/\p=p/\True) x.L)/\
  (decide (y<0)=false->nxS l a m b R x.r (fun z=>mid=mid/\n=n/\wr .i64 (X6 (x.i+x.j)+1)=z.i/\x.j=z.j/\p=p/\True) x.L))/\
 (decide (x.i<x.j)=false->smT1 N l a m b mid x.i (wr .i64 (n-x.i)) x.L l2)
def smW (N:Int) (l:List Prt) (a m b mid n p:Int) (l2:List Prt):Prop:=((wr .i64 (m-a)==1)=true->smA l a m b l2)/\((wr .i64 (m-a)==1)=false->((wr .i64 (b-m)==1)=true->smB l a m b l2)/\((wr .i64 (b-m)==1)=false->
 (decide (m>mid)=true->smC N l a m b mid n p (wr .i64 (n-b)) mid l2)/\(decide (m>mid)=false->smC N l a m b mid n p a m l2)))
theorem Zs7 (N:Int) (l l2:List Prt) (a m b:Int):Yf E F0 (vc E (Fsm N) 400) 68 [.sl 0 0 (List.length l) (E.w Th.parts) none,.int false .i64 a,.int false .i64 m,.int false .i64 b,cmpP] (hp1 Th.parts l 0) 1 (inpK Th.parts l l2)=
 smW N l a m b (X6 (a+b)) (wr .i64 (X6 (a+b)+m)) (wr .i64 (wr .i64 (X6 (a+b)+m)-1)) l2:=by kernel_rfl
def Zs8 (l:List Prt) (x:Int×Int×Unit×Unit):Prop:=0<=x.1/\x.1<=x.2.1/\x.2.1<=l.length/\l.length<=1000000/\(seg l x.1.toNat x.2.1.toNat).Pairwise fun p q=>p.idx<q.idx
def isF (l:List Prt) (x:Int×Int×Unit×Unit):List Prt:=repl l x.1.toNat x.2.1.toNat (srtU klP ixP (seg l x.1.toNat x.2.1.toNat))
def Sis:Sum thy:=Zgz E Th.parts dI2c Zs8 isF
def Ast1:Fr thy->Hp thy->Nat->Ann thy:=fun T h i=>{X:=SoX,fr:=fun x=> [(0,T 0),(1,T 1),(2,T 2),(6,T 6),(7,.int false .i64 x.i),(8,.int false .i64 x.j)],bl:=fun x=>blkL (T 0) x.L,src:=fun _=> [],md:= [bOf (T 0)],ih:=i,M:=i+30,meas:=fun x=>x.r}
def Ast2:Fr thy->Hp thy->Nat->Ann thy:=fun T h i=>{X:=SoX,fr:=fun x=> [(0,T 0),(1,T 1),(2,T 2),(6,.int false .i64 x.i)],bl:=fun x=>blkL (T 0) x.L,src:=fun _=> [],md:= [bOf (T 0)],ih:=i,M:=i+30,meas:=fun x=>x.r}
def Ast3:Fr thy->Hp thy->Nat->Ann thy:=fun T h i=>{X:=SoX,fr:=fun x=> [(0,T 0),(1,T 1),(2,T 2),(6,T 6),(7,.int false .i64 x.i),(8,.int false .i64 x.j)],bl:=fun x=>blkL (T 0) x.L,src:=fun _=> [],md:= [bOf (T 0)],ih:=i,M:=i+30,meas:=fun x=>x.r}
def Fst (N:Int):Fns thy:=addL (addL (addL (addS (addS F9c 67 Sis) 68 (Ssm N)) 46 2 Ast1 E) 46 7 Ast2 E) 46 9 Ast3 E
theorem Zs9 (N:Int) (l l2:List Prt):Yf E (Fst N) (vc E (Fst N) 400) 46 [.sl 0 0 (List.length l) (E.w Th.parts) none,.int false .i64 (List.length l),cmpP] (hp1 Th.parts l 0) 1 (inpK Th.parts l l2)=(
 ∃(R:SoX->Prop),(∃(x:SoX),R x/\true=true/\(((0:Nat)=(0:Nat)/\List.length l=List.length l/\True)/\(↑(List.length l):Int)=(↑(List.length l):Int)/\
 (Fn.func (30:FuncId)=Fn.func (30:FuncId)/\True/\True)/\(20:Int)=(20:Int)/\(0:Int)=SoX.i x/\(20:Int)=
 SoX.j x/\True)/\(l=SoX.L x/\(0:Nat)=(0:Nat))/\True)/\∀(x:SoX),R x->(decide (SoX.j x<=(↑(List.length l):Int))=true->(List.length l=List.length (SoX.L x)/\
 (0:Int)<=SoX.i x/\SoX.i x<=SoX.j x/\SoX.j x<=(↑(List.length (SoX.L x)):Int)/\List.length (SoX.L x)<=(1000000:Nat)/\List.Pairwise (fun (p q:Prt)=>Prt.idx p<
 Prt.idx q) (seg (SoX.L x) (Int.toNat (SoX.i x)) (Int.toNat (SoX.j x))))/\∀(l':List Prt),l'=isF (SoX.L x) (SoX.i x,SoX.j x,(),())->∃(x_1:SoX),R x_1/\x_1.4+(1:
 Nat)<=x.4/\true=true/\(((0:Nat)=(0:Nat)/\List.length l=List.length l/\True)/\(↑(List.length l):Int)=(↑(List.length l):Int)/\(Fn.func
 (30:FuncId)=Fn.func (30:FuncId)/\True/\True)/\(20:Int)=(20:Int)/\SoX.j x=SoX.i x_1/\wr IntKind.i64 (SoX.j x+
 (20:Int))=SoX.j x_1/\True)/\(l'=SoX.L x_1/\(0:Nat)=(0:Nat))/\True)/\(decide (SoX.j x<=(↑(List.length l):Int))=false->(List.length l=List.length (SoX.L x)/\
 (0:Int)<=SoX.i x/\SoX.i x<=(↑(List.length l):Int)/\(↑(List.length l):Int)<=(↑(List.length (SoX.L x)):Int)/\List.length (SoX.L x)<=(1000000:Nat)/\List.Pairwise
 (fun (p q:Prt)=>Prt.idx p<Prt.idx q) (seg (SoX.L x) (Int.toNat (SoX.i x)) (Int.toNat (↑(List.length l):Int))))/\∀(l':List Prt),l'=isF (SoX.L x) (SoX.i x,
 (↑(List.length l):Int),(),())->∃(R:SoX->Prop),(∃(x:SoX),R x/\true=true/\(((0:Nat)=(0:Nat)/\List.length l=List.length l/\True)/\(↑(List.length l):Int)
 =(↑(List.length l):Int)/\(Fn.func (30:FuncId)=Fn.func (30:FuncId)/\True/\True)/\(20:Int)=SoX.i x/\True)/\(l'
 =SoX.L x/\(0:Nat)=(0:Nat))/\True)/\∀(x:SoX),R x->(decide (SoX.i x<(↑(List.length l):Int))=true->∃(R_1:SoX->Prop),(∃(x_1:SoX),R_1 x_1/\true=true/\
 (((0:Nat)=(0:Nat)/\List.length l=List.length l/\True)/\(↑(List.length l):Int)=(↑(List.length l):Int)/\(Fn.func (30:FuncId)=Fn.func
 (30:FuncId)/\True/\True)/\SoX.i x=SoX.i x/\(0:Int)=SoX.i x_1/\wr IntKind.i64 ((2:Int)*SoX.i x)=SoX.j x_1/\True)/\(SoX.L x=SoX.L x_1
 /\(0:Nat)=(0:Nat))/\True)/\∀(x_1:SoX),R_1 x_1->(decide (SoX.j x_1<=(↑(List.length l):Int))=true->(List.length l=List.length (SoX.L x_1)/\(0:Int)<=SoX.i x_1
 /\SoX.i x_1+(1:Int)<=wr IntKind.i64 (SoX.i x_1+SoX.i x)/\wr IntKind.i64 (SoX.i x_1+SoX.i x)+(1:Int)<=SoX.j x_1/\SoX.j x_1<=(↑(List.length (SoX.L x_1)):Int)/\
 List.length (SoX.L x_1)<=(1000000:Nat)/\SoX.j x_1-SoX.i x_1+(1:Int)<=N/\Mrg klP ixP (seg (SoX.L x_1) (Int.toNat (SoX.i x_1)) (Int.toNat (wr IntKind.i64 (SoX.i x_1+
 SoX.i x)))) (seg (SoX.L x_1) (Int.toNat (wr IntKind.i64 (SoX.i x_1+SoX.i x))) (Int.toNat (SoX.j x_1))))/\∀(l':List Prt),l'=smF (SoX.L x_1) (SoX.i x_1,wr IntKind.i64
 (SoX.i x_1+SoX.i x),SoX.j x_1,(),())->∃(x_2:SoX),R_1 x_2/\x_2.4+(1:Nat)<=x_1.4/\true=true/\(((0:Nat)=(0:Nat)/\List.length l=List.length l/\True)/\
 (↑(List.length l):Int)=(↑(List.length l):Int)/\(Fn.func (30:FuncId)=Fn.func (30:FuncId)/\True/\True)/\SoX.i x=
 SoX.i x/\SoX.j x_1=SoX.i x_2/\wr IntKind.i64 (SoX.j x_1+wr IntKind.i64 ((2:Int)*SoX.i x))=SoX.j x_2/\True)/\(l'=SoX.L x_2/\(0:Nat)=(0:Nat))/\True)/\(decide
 (SoX.j x_1<=(↑(List.length l):Int))=false->(decide (wr IntKind.i64 (SoX.i x_1+SoX.i x)<(↑(List.length l):Int))=true->(List.length l=List.length (SoX.L x_1)/\(0:
 Int)<=SoX.i x_1/\SoX.i x_1+(1:Int)<=wr IntKind.i64 (SoX.i x_1+SoX.i x)/\wr IntKind.i64 (SoX.i x_1+SoX.i x)+(1:Int)<=(↑(List.length l):Int)/\(↑(List.length l):
 Int)<=(↑(List.length (SoX.L x_1)):Int)/\List.length (SoX.L x_1)<=(1000000:Nat)/\(↑(List.length l):Int)-SoX.i x_1+(1:Int)<=N/\Mrg klP ixP (seg (SoX.L x_1)
 (Int.toNat (SoX.i x_1)) (Int.toNat (wr IntKind.i64 (SoX.i x_1+SoX.i x)))) (seg (SoX.L x_1) (Int.toNat (wr IntKind.i64 (SoX.i x_1+SoX.i x))) (Int.toNat (↑(List.length l):
 Int))))/\∀(l':List Prt),l'=smF (SoX.L x_1) (SoX.i x_1,wr IntKind.i64 (SoX.i x_1+SoX.i x),(↑(List.length l):Int),(),())->∃(x_2:SoX),R x_2/\x_2.4+(1:Nat)<=
 x.4/\true=true/\(((0:Nat)=(0:Nat)/\List.length l=List.length l/\True)/\(↑(List.length l):Int)=(↑(List.length l):Int)/\(Fn.func (30:
 FuncId)=Fn.func (30:FuncId)/\True/\True)/\wr IntKind.i64 (SoX.i x*(2:Int))=SoX.i x_2/\True)/\(l'=SoX.L x_2/\(0:Nat)=(0:Nat))/\
 True)/\(decide (wr IntKind.i64 (SoX.i x_1+SoX.i x)<(↑(List.length l):Int))=false->∃(x_2:SoX),R x_2/\x_2.4+(1:Nat)<=x.4/\true=true/\(((0:Nat)=(0:Nat)/\
 List.length l=List.length l/\True)/\(↑(List.length l):Int)=(↑(List.length l):Int)/\(Fn.func (30:FuncId)=Fn.func
 (30:FuncId)/\True/\True)/\wr IntKind.i64 (SoX.i x*(2:Int))=SoX.i x_2/\True)/\(SoX.L x_1=SoX.L x_2/\(0:Nat)=(0:Nat))/\True)))/\
 (decide (SoX.i x<(↑(List.length l):Int))=false->SoX.L x=l2/\(0:Nat)=(0:Nat)))
 ):=by kernel_rfl
end
section
open Go Go.RowKit
theorem wrk {z:Int} (h1: -9223372036854775808<=z) (h2:z<=9223372036854775807):wr .i64 z=z:=wr64 h1 h2
theorem Zrm {α:Type} (u:List α) (v:α) (w:List α):(u++v::w)[u.length]? =some v:=by simp
theorem Yp {α:Type} {L u w:List α} {v:α} {k:Nat} (h:L=u++v::w) (hk:k=u.length):L[k]? =some v:=by
 subst h;subst hk;exact Zrm u v w
theorem Zd0 {f:Nat} {th:Th} {args:List (SV thy)} {l l2 l3:List (domT th)} (h:l2=l3) (k:InpC (Y:=thy) E f th args l l3):InpC (Y:=thy) E f th args l l2:=h▸k
theorem Ztf (l:List Prt) (x:Int×Int×Int×Unit×Unit) (h:Zs4 l x):InpC E 105 Th.parts (dI3.enc x) l (swrF l x.1.toNat x.2.1.toNat x.2.2.1.toNat):=by
 obtain ⟨a,b,n,u1,u2⟩:=x
 obtain ⟨h1,h2,h3,h4,h5⟩:0<=a/\0<=n/\a+n<=b/\b+n<=l.length/\l.length<=1000000:=h
 obtain ⟨A,rfl⟩:=Int.eq_ofNat_of_zero_le h1
 obtain ⟨k,rfl⟩:=Int.eq_ofNat_of_zero_le h2
 obtain ⟨B,rfl⟩:=Int.eq_ofNat_of_zero_le (by omega:0<=b)
 obtain ⟨p,X,q1,e1,hp,hX⟩:=Zca l (show A<=A+k by omega) (by omega)
 have hq1:q1.length=l.length-(A+k):=by rw [e1];simp;omega
 obtain ⟨r,Y,q,e2,hr,hY⟩:=Zca q1 (show B-A-k<=B-A-k+k by omega) (by omega)
 have hXk:X.length=k:=by omega
 have hYk:Y.length=k:=by omega
 have hl:l=p++X++r++Y++q:=by rw [e1,e2];simp
 have hF:swrF l (A:Int).toNat (B:Int).toNat (k:Int).toNat=p++Y++r++X++q:=by
  rw [Int.toNat_natCast,Int.toNat_natCast,Int.toNat_natCast,hl]
  exact Zaz hp hXk (by omega) hYk
 refine Zd0 hF ?_
 refine Y7 E_ok (Zm E_ok Zs2 400) rfl ?_
 refine Eq.mpr (Zs3 l _ A B k) ?_
 refine ⟨fun x=>∃X1 X2 Y1 Y2,X=X1++X2/\Y=Y1++Y2/\X1.length=Y1.length/\x.i=X1.length/\x.L=p++(Y1++X2)++r++(X1++Y2)++q/\x.r=X2.length,
  ⟨⟨l,0,0,X.length⟩,⟨[],X,[],Y,rfl,rfl,rfl,rfl,hl,rfl⟩,rfl,⟨⟨rfl,rfl,trivial⟩,rfl,rfl,rfl,⟨rfl,trivial,trivial⟩,rfl,trivial⟩,⟨rfl,rfl⟩,trivial⟩,fun x hx=> ?_⟩
 obtain ⟨X1,X2,Y1,Y2,eX,eY,hxy,hi,hL,hr2⟩:=hx
 have lX:X1.length+X2.length=k:=by rw [<-hXk,eX,List.length_append]
 have lY:Y1.length+Y2.length=k:=by rw [<-hYk,eY,List.length_append]
 have hLl:x.L.length=l.length:=by rw [hL,hl,eX,eY];simp;omega
 refine ⟨fun h=> ?_,fun h=>⟨?_,rfl⟩⟩
 · have h:=of_decide_eq_true h
   cases X2 with
   |nil=>simp at lX;omega
   |cons u X2=>
    cases Y2 with
    |nil=>simp at lX lY;omega
    |cons v Y2=>
     rw [List.length_cons] at lX lY
     have wa:wr .i64 ((A:Int)+x.i)=((A+X1.length:Nat):Int):=by rw [wrk (by omega) (by omega)];omega
     have wb:wr .i64 ((B:Int)+x.i)=((B+X1.length:Nat):Int):=by rw [wrk (by omega) (by omega)];omega
     have wi:wr .i64 (x.i+1)=x.i+1:=wrk (by omega) (by omega)
     have gA:x.L[A+X1.length]? =some u:=Yp (u:=p++Y1) (w:=X2++r++(X1++v::Y2)++q) (by rw [hL];simp) (by simp;omega)
     have gB:x.L[B+X1.length]? =some v:=Yp (u:=p++(Y1++u::X2)++r++X1) (w:=Y2++q) (by rw [hL];simp) (by simp;omega)
     rw [wa,wb,wi,Int.toNat_natCast,Int.toNat_natCast,Nat.zero_add,Nat.zero_add]
     refine ⟨⟨by omega,by omega⟩,by omega,fun x1 k1=>⟨⟨by omega,by omega⟩,by omega,fun x2 k2=>⟨⟨by omega,by omega⟩,by omega,by omega,fun x3 k3=>⟨⟨by omega,by omega⟩,by omega,by rw [List.length_set];omega,fun x4 k4=>
      ⟨⟨_,x.i+1,0,X2.length⟩,⟨X1++ [u],X2,Y1++ [v],Y2,by rw [eX];simp,by rw [eY];simp,by simp;exact hxy,by simp;omega,?_,rfl⟩,by rw [hr2];simp,rfl,⟨⟨rfl,rfl,trivial⟩,rfl,rfl,rfl,⟨rfl,trivial,trivial⟩,rfl,trivial⟩,⟨rfl,rfl⟩,trivial⟩⟩⟩⟩⟩
     obtain rfl:v=x1:=Option.some.inj (gB.symm.trans k1)
     obtain rfl:u=x2:=Option.some.inj (gA.symm.trans k2)
     show (x.L.set (A+X1.length) v).set (B+X1.length) u=_
     rw [Zi8 gA gB,hL,show A+X1.length=p.length+Y1.length by omega,show B+X1.length=p.length+Y1.length+1+X2.length+r.length+X1.length by omega,Zpl]
     simp
 · have h:=of_decide_eq_false h
   have h0:X2.length=0:=by omega
   have h02:Y2.length=0:=by omega
   rw [List.length_eq_zero_iff] at h0 h02
   rw [hL,eX,eY,h0,h02,List.append_nil,List.append_nil]
theorem Ztg:SumOk E 105 Ssr:=W0 E_ok (Zw (f:=105) rfl) fun x l h=>Ztf l x h
theorem Zth:FnsOk E Fro:=Zp E_ok (Zx Zc2 Ztg) _ _ _
theorem Zti (l:List Prt) (x:Int×Int×Int×Unit×Unit) (h:Zrb l x):InpC E 88 Th.parts (dI3.enc x) l (repl l x.1.toNat x.2.2.1.toNat (seg l x.2.1.toNat x.2.2.1.toNat++seg l x.1.toNat x.2.1.toNat)):=by
 obtain ⟨a,m,b,u1,u2⟩:=x
 obtain ⟨h1,h2,h3,h4,h5⟩:0<=a/\a<m/\m<b/\b<=l.length/\l.length<=1000000:=h
 obtain ⟨A,rfl⟩:=Int.eq_ofNat_of_zero_le h1
 obtain ⟨M,rfl⟩:=Int.eq_ofNat_of_zero_le (by omega:0<=m)
 obtain ⟨B,rfl⟩:=Int.eq_ofNat_of_zero_le (by omega:0<=b)
 obtain ⟨p,X,q1,e1,hp,hX⟩:=Zca l (show A<=M by omega) (by omega)
 have hq1:q1.length=l.length-M:=by rw [e1];simp;omega
 obtain ⟨r,Y,q,e2,hr,hY⟩:=Zca q1 (show 0<=B-M by omega) (by omega)
 obtain rfl:r= []:=List.length_eq_zero_iff.1 hr
 rw [Nat.zero_add] at hY
 have hl:l=p++X++Y++q:=by rw [e1,e2];simp
 have hT:repl l (A:Int).toNat (B:Int).toNat (seg l (M:Int).toNat (B:Int).toNat++seg l (A:Int).toNat (M:Int).toNat)=p++Y++X++q:=by
  rw [Int.toNat_natCast,Int.toNat_natCast,Int.toNat_natCast]
  have s1:seg l M B=Y:=by rw [hl];exact Vk (p:=p++X) (by simp;omega) (by omega)
  have s2:seg l A M=X:=by rw [hl,List.append_assoc];exact Vk hp hX
  rw [s1,s2]
  have:l=p++(X++Y)++q:=by rw [hl];simp
  rw [this,Zhs hp (by simp;omega)]
  simp
 refine Zd0 hT ?_
 refine Y7 E_ok (Zm E_ok Zth 400) rfl ?_
 refine Eq.mpr (Zs5 l _ A M B) ?_
 refine ⟨fun x=>∃pre A' B' post,x.L=pre++A'++B'++post/\p++Y++X++q=pre++B'++A'++post/\x.i=A'.length/\x.j=B'.length/\pre.length+A'.length=M/\0<A'.length/\0<B'.length/\x.L.length=l.length/\x.r=A'.length+B'.length,
  ⟨⟨l,(X.length:Int),(Y.length:Int),X.length+Y.length⟩,⟨p,X,Y,q,hl,rfl,rfl,rfl,by omega,by omega,by omega,rfl,rfl⟩,rfl,⟨⟨rfl,rfl,trivial⟩,rfl,rfl,rfl,⟨rfl,trivial,trivial⟩,by rw [wrk (by omega) (by omega)];show _=(X.length:Int);omega,by rw [wrk (by omega) (by omega)];show _=(Y.length:Int);omega,trivial⟩,⟨rfl,rfl⟩,trivial⟩,fun x hx=> ?_⟩
 obtain ⟨pre,A',B',post,hL,hE,hi,hj,hM,hA,hB,hLl,hr⟩:=hx
 have hsum:pre.length+A'.length+B'.length+post.length=l.length:=by rw [<-hLl,hL];simp;omega
 have wm:wr .i64 ((M:Int)-x.i)=(pre.length:Int):=by rw [wrk (by omega) (by omega)];omega
 refine ⟨fun h=>⟨fun h2=> ?_,fun h2=> ?_⟩,fun h=> ?_⟩
 · have h2:=of_decide_eq_true h2
   rw [wm]
   refine ⟨⟨hLl.symm,by omega,by omega,by omega,by omega,by omega⟩,fun l' hl'=> ?_⟩
   obtain ⟨A1,A2,rfl,hA1⟩:∃A1 A2,A'=A1++A2/\A1.length=B'.length:=⟨A'.take B'.length,A'.drop B'.length,(List.take_append_drop _ _).symm,by rw [List.length_take];omega⟩
   rw [List.length_append] at*
   have e:l'=pre++B'++A2++A1++post:=by
    rw [hl',Int.toNat_natCast,Int.toNat_natCast,hj,Int.toNat_natCast,hL,show pre++(A1++A2)++B'++post=pre++A1++A2++B'++post by simp]
    exact Zaz rfl hA1 (by omega) rfl
   refine ⟨⟨l',x.i-x.j,x.j,A2.length+A1.length⟩,⟨pre++B',A2,A1,post,e,by rw [hE];simp,?_,?_,by simp;omega,by omega,by omega,?_,rfl⟩,?_,rfl,⟨⟨rfl,rfl,trivial⟩,rfl,rfl,rfl,⟨rfl,trivial,trivial⟩,wrk (by omega) (by omega),rfl,trivial⟩,⟨rfl,rfl⟩,trivial⟩
   · show x.i-x.j=_;omega
   · show x.j=_;omega
   · show l'.length=_;rw [e];simp;omega
   · show A2.length+A1.length+1<=x.r;omega
 · have h2:=of_decide_eq_false h2
   have hne:x.i≠x.j:=by simpa using h
   have w2:wr .i64 (wr .i64 ((M:Int)+x.j)-x.i)=((M+(B'.length-A'.length):Nat):Int):=by rw [wrk (z:=(M:Int)+x.j) (by omega) (by omega),wrk (by omega) (by omega)];omega
   rw [wm,w2]
   refine ⟨⟨hLl.symm,by omega,by omega,by omega,by omega,by omega⟩,fun l' hl'=> ?_⟩
   obtain ⟨B1,B2,rfl,hB1⟩:∃B1 B2,B'=B1++B2/\B1.length=B'.length-A'.length:=⟨B'.take (B'.length-A'.length),B'.drop (B'.length-A'.length),(List.take_append_drop _ _).symm,by rw [List.length_take];omega⟩
   rw [List.length_append] at*
   have hB2:B2.length=A'.length:=by omega
   have e:l'=pre++B2++B1++A'++post:=by
    rw [hl',Int.toNat_natCast,Int.toNat_natCast,hi,Int.toNat_natCast,hL,show pre++A'++(B1++B2)++post=pre++A'++B1++B2++post by simp]
    exact Zaz rfl rfl (by omega) hB2
   refine ⟨⟨l',x.i,x.j-x.i,B2.length+B1.length⟩,⟨pre,B2,B1,A'++post,by rw [e];simp,by rw [hE];simp,?_,?_,by omega,by omega,by omega,?_,rfl⟩,?_,rfl,⟨⟨rfl,rfl,trivial⟩,rfl,rfl,rfl,⟨rfl,trivial,trivial⟩,rfl,wrk (by omega) (by omega),trivial⟩,⟨rfl,rfl⟩,trivial⟩
   · show x.i=_;omega
   · show x.j-x.i=_;omega
   · show l'.length=_;rw [e];simp;omega
   · show B2.length+B1.length+1<=x.r;omega
 · have hne:x.i=x.j:=by simpa using h
   rw [wm]
   refine ⟨⟨hLl.symm,by omega,by omega,by omega,by omega,by omega⟩,fun l' hl'=>⟨?_,rfl⟩⟩
   rw [hl',Int.toNat_natCast,Int.toNat_natCast,hi,Int.toNat_natCast,hL,hE,show pre++A'++B'++post=pre++A'++ []++B'++post by simp,Zaz rfl rfl (by simp;omega) (by omega)]
   simp
theorem Ztj:SumOk E 88 Sro:=W0 E_ok (Zw (f:=88) rfl) fun x l h=>Zti l x h
end
section
open Go Go.RowKit
theorem Zbp {l:List Prt} (h:l.Pairwise fun (p q:Prt)=>p.idx<q.idx):Dix ixP l:=h.imp fun h=>by show _≠_;exact Int.ne_of_lt h
theorem Zt4 (l:List Prt) (x:Int×Int×Unit×Unit) (h:Zs8 l x):InpC E 67 Th.parts (dI2c.enc x) l (isF l x):=by
 obtain ⟨a,b,u1,u2⟩:=x
 obtain ⟨h1,h2,h3,h4,h5⟩:0<=a/\a<=b/\b<=l.length/\l.length<=1000000/\(seg l a.toNat b.toNat).Pairwise (fun (p q:Prt)=>p.idx<q.idx):=h
 obtain ⟨A,rfl⟩:=Int.eq_ofNat_of_zero_le h1
 obtain ⟨B,rfl⟩:=Int.eq_ofNat_of_zero_le (by omega:0<=b)
 rw [Int.toNat_natCast,Int.toNat_natCast] at h5
 obtain ⟨p,X,q,hl,hp,hX⟩:=Zca l (show A<=B by omega) (by omega)
 have hs:seg l A B=X:=by rw [hl];exact Vk hp hX
 rw [hs] at h5
 have hF:isF l ((A:Int),(B:Int),u1,u2)=p++srtU klP ixP X++q:=by
  unfold isF
  show repl l (A:Int).toNat (B:Int).toNat (srtU klP ixP (seg l (A:Int).toNat (B:Int).toNat))=_
  rw [Int.toNat_natCast,Int.toNat_natCast,hs,hl]
  exact Zhs hp hX
 refine Zd0 hF ?_
 refine Y7 E_ok (Zm E_ok Zs1 400) rfl ?_
 refine Eq.mpr (Zon l _ A B) ?_
 have hpl:p.length+X.length+q.length=l.length:=by rw [hl];simp;omega
 refine ⟨fun x=>∃Y Z,X=Y++Z/\x.L=p++srtU klP ixP Y++Z++q/\((x.i=A+Y.length/\1<=Y.length)\/(X= []/\x.i=A+1))/\x.r=Z.length,?_,fun x hx=> ?_⟩
 · have w1:wr .i64 ((A:Int)+1)=(A:Int)+1:=wrk (by omega) (by omega)
   rw [w1]
   cases X with
   |nil=>exact ⟨⟨l,(A:Int)+1,0,0⟩,⟨[],[],rfl,by rw [hl];simp [srtU],.inr ⟨rfl,rfl⟩,rfl⟩,rfl,⟨⟨rfl,rfl,trivial⟩,rfl,rfl,⟨rfl,trivial,trivial⟩,rfl,trivial⟩,⟨rfl,rfl⟩,trivial⟩
   |cons u X=>exact ⟨⟨l,(A:Int)+1,0,X.length⟩,⟨[u],X,rfl,by rw [hl];simp [srtU,insU],.inl ⟨rfl,by simp⟩,rfl⟩,rfl,⟨⟨rfl,rfl,trivial⟩,rfl,rfl,⟨rfl,trivial,trivial⟩,rfl,trivial⟩,⟨rfl,rfl⟩,trivial⟩
 obtain ⟨Y,Z,eX,hL,hi,hr⟩:=hx
 have lXY:Y.length+Z.length=X.length:=by rw [eX,List.length_append]
 refine ⟨fun h=> ?_,fun h=>⟨?_,rfl⟩⟩
 · have h:=of_decide_eq_true h
   have hi:x.i=A+Y.length/\1<=Y.length:=by
    rcases hi with hi|⟨hi,hi2⟩
    · exact hi
    · rw [hi] at hX;simp at hX;omega
   cases Z with
   |nil=>simp at lXY;omega
   |cons v Z=>
    rw [List.length_cons] at lXY hr
    have hdY:Dix ixP (Y++ [v]):=by
     have:Dix ixP X:=Zbp h5
     rw [eX,show Y++v::Z=(Y++ [v])++Z by simp] at this
     exact (List.pairwise_append.1 this).1
    have hlt:∀y∈Y,y.idx<v.idx:=by
     rw [eX] at h5
     exact fun y hy=>(List.pairwise_append.1 h5).2.2 y hy v (by simp)
    have wi:wr .i64 (x.i+1)=x.i+1:=wrk (by omega) (by omega)
    have hsl:(srtU klP ixP Y).length=Y.length:=Y3 Y
    refine ⟨fun y=>∃s1 s2,srtU klP ixP Y=s1++s2/\(∀z∈s2,z.rest<v.rest)/\y.L=p++s1++v::s2++Z++q/\y.j=A+s1.length/\y.r=s1.length,
     ⟨⟨x.L,0,x.i,Y.length⟩,⟨srtU klP ixP Y,[],by simp,fun z hz=>by (cases hz),by rw [hL];simp,by rw [hsl];exact hi.1,hsl.symm⟩,rfl,⟨⟨rfl,rfl,trivial⟩,rfl,rfl,⟨rfl,trivial,trivial⟩,rfl,rfl,trivial⟩,⟨rfl,rfl⟩,trivial⟩,fun y hy=> ?_⟩
    obtain ⟨s1,s2,hs12,hs2,hyL,hyj,hyr⟩:=hy
    have l12:s1.length+s2.length=Y.length:=by rw [<-hsl,hs12,List.length_append]
    have hyl:y.L.length=l.length:=by rw [hyL,<-hpl];simp;omega
    have fin:(∀z∈s1,v.rest<=z.rest)->∃x4:SoX,(∃Y Z,X=Y++Z/\x4.L=p++srtU klP ixP Y++Z++q/\((x4.i=A+Y.length/\1<=Y.length)\/(X= []/\x4.i=A+1))/\x4.r=Z.length)/\x4.r+1<=x.r/\true=true/\(((0:Nat)=0/\l.length=l.length/\True)/\(A:Int)=A/\(B:Int)=B/\(Fn.func (30:FuncId)=Fn.func 30/\True/\True)/\wr .i64 (x.i+1)=x4.i/\True)/\(y.L=x4.L/\(0:Nat)=0)/\True:=by
     intro hs1
     have hput:=Zpm (kl:=klP) (ix:=ixP) hdY hlt hs12 hs1 hs2
     exact ⟨⟨y.L,x.i+1,0,Z.length⟩,⟨Y++ [v],Z,by rw [eX];simp,by rw [hput,hyL];simp,.inl ⟨by simp;omega,by simp⟩,rfl⟩,by show Z.length+1<=x.r;omega,rfl,⟨⟨rfl,rfl,trivial⟩,rfl,rfl,⟨rfl,trivial,trivial⟩,wi,trivial⟩,⟨rfl,rfl⟩,trivial⟩
    refine ⟨fun k=> ?_,fun k=> ?_⟩
    · have k:=of_decide_eq_true k
      obtain ⟨s0,w,rfl⟩:∃s0 w,s1=s0++ [w]:=by
       have hne:s1≠ []:=by rintro rfl;simp at hyj;omega
       exact ⟨s1.dropLast,s1.getLast hne,(List.dropLast_concat_getLast hne).symm⟩
      rw [List.length_append,List.length_cons,List.length_nil] at*
      have wj:wr .i64 (y.j-1)=((A+s0.length:Nat):Int):=by rw [wrk (by omega) (by omega)];omega
      have ej:y.j=((A+s0.length+1:Nat):Int):=by omega
      have g1:y.L[A+s0.length+1]? =some v:=Yp (u:=p++s0++ [w]) (w:=s2++Z++q) (by rw [hyL];simp) (by simp;omega)
      have g0:y.L[A+s0.length]? =some w:=Yp (u:=p++s0) (w:=v::s2++Z++q) (by rw [hyL];simp) (by simp;omega)
      rw [wj,ej,Int.toNat_natCast,Int.toNat_natCast,Nat.zero_add,Nat.zero_add]
      refine ⟨⟨by omega,by omega⟩,by omega,fun x2 k2=>⟨⟨by omega,by omega⟩,by omega,fun x3 k3=>⟨trivial,fun c hc=>⟨fun hc2=> ?_,fun hc2=> ?_⟩⟩⟩⟩
      all_goals
       obtain rfl:v=x2:=Option.some.inj (g1.symm.trans k2)
       obtain rfl:w=x3:=Option.some.inj (g0.symm.trans k3)
      · have hwv:w.rest<v.rest:=by
         have hc2:=of_decide_eq_true hc2
         rw [hc] at hc2
         exact (Wm _ _).1 hc2
        refine ⟨⟨by omega,by omega⟩,by omega,fun x4 k4=>⟨⟨by omega,by omega⟩,by omega,fun x5 k5=>⟨⟨by omega,by omega⟩,by omega,by omega,fun x6 k6=>⟨⟨by omega,by omega⟩,by omega,by rw [List.length_set];omega,fun x7 k7=>
         ⟨⟨_,0,((A+s0.length:Nat):Int),s0.length⟩,⟨s0,w::s2,by rw [hs12];simp,fun z hz=> ?_,?_,by show ((A+s0.length:Nat):Int)=_;omega,rfl⟩,by show s0.length+1<=y.r;omega,rfl,⟨⟨rfl,rfl,trivial⟩,rfl,rfl,⟨rfl,trivial,trivial⟩,rfl,rfl,trivial⟩,⟨rfl,rfl⟩,trivial⟩⟩⟩⟩⟩
        · rcases List.mem_cons.1 hz with rfl|hz
          · exact hwv
          · exact hs2 z hz
        · obtain rfl:w=x4:=Option.some.inj (g0.symm.trans k4)
          obtain rfl:v=x5:=Option.some.inj (g1.symm.trans k5)
          show (y.L.set (A+s0.length+1) w).set (A+s0.length) v=_
          rw [Zi8 g1 g0,hyL,show A+s0.length+1=(p++s0).length+1 by simp;omega,show A+s0.length=(p++s0).length by simp;omega,show p++(s0++ [w])++v::s2++Z++q=(p++s0)++w::v::(s2++Z++q) by simp,Zem]
          simp
      · refine fin fun z hz=> ?_
        have hge:v.rest<=w.rest:=by
         have hc2:=of_decide_eq_false hc2
         rw [hc,Wm] at hc2
         omega
        have hsrt:Srt klP ixP (s0++ [w]):=by
         have:Srt klP ixP (s0++ [w]++s2):=hs12▸Y4 (List.pairwise_append.1 hdY).1
         exact (srt_app.1 this).1
        have:w.rest<=z.rest:=V2 (kl:=klP) hsrt hz
        omega
    · have k:=of_decide_eq_false k
      have h0:s1.length=0:=by omega
      rw [List.length_eq_zero_iff] at h0
      exact fin fun z hz=>by rw [h0] at hz;cases hz
 · have h:=of_decide_eq_false h
   have hZ:Z= []:=by
    rcases hi with hi|⟨hi,hi2⟩
    · exact List.length_eq_zero_iff.1 (by omega)
    · rw [hi,List.length_nil] at lXY;exact List.length_eq_zero_iff.1 (by omega)
   rw [hL,eX,hZ]
   simp
theorem Zte:SumOk E 67 Sis:=W0 E_ok (Zw (f:=67) rfl) fun x l h=>Zt4 l x h
end
section
open Go Go.RowKit
theorem Zat {z:Int} (h1:0<=z) (h2:z<=4611686018427387904):X6 z=z/2:=by
 unfold X6
 rw [show (2:Int)^min (Int.toNat (1:Int)) (IntKind.bits IntKind.u64)=2 from rfl,wrk (z:=z) (by omega) (by omega),wu64,Int.fdiv_eq_ediv_of_nonneg _ (by decide)]
 rw [show z%18446744073709551616=z by omega]
 exact wrk (by omega) (by omega)
theorem Xt {l:List Prt} {a m b:Int} {k:Prop} (h:k):frS l a m b k:=⟨⟨rfl,rfl,trivial⟩,rfl,rfl,rfl,⟨rfl,trivial,trivial⟩,h⟩
theorem Vh {l L:List Prt} {i:Int} {k:Prt->Prop} (n:Nat) (hi:i=n) (hl:L.length=l.length) (x:Prt) (hx:L[n]? =some x) (h:k x):gtS l L i k:=by
 have hn:=(gA9.1 hx).1
 subst hi
 refine ⟨⟨by omega,by omega⟩,by rw [Int.toNat_natCast];omega,fun y hy=> ?_⟩
 rw [Int.toNat_natCast,Nat.zero_add,hx] at hy
 cases hy
 exact h
theorem Zid {l L:List Prt} {i:Int} {v:Prt} {k:List Prt->Prop} (n:Nat) (hi:i=n) (hl:L.length=l.length) (hn:n<l.length) (h:k (L.set n v)):puS l L i v k:=by
 subst hi
 refine ⟨⟨by omega,by omega⟩,Nat.zero_le _,by rw [Int.toNat_natCast];omega,fun y hy=> ?_⟩
 rw [Int.toNat_natCast,Nat.zero_add]
 exact h
theorem Zsr {l L p t1 w:List Prt} {x:Prt} {a m b t s:Int} (hL:L=p++x::(t1++w)) (hl:L.length=l.length) (h6:l.length<=1000000) (hs:s=p.length) (ht:t=p.length+1+t1.length):
 swL l a m b t s (fun k=>decide (k<wr .i64 (t-1))) (fun k=>wr .i64 (k+1)) L (p++t1++x::w):=by
 have hsum:p.length+t1.length+w.length+1=l.length:=by rw [<-hl,hL];simp;omega
 have wt:wr .i64 (t-1)=p.length+t1.length:=by rw [wrk (by omega) (by omega)];omega
 refine ⟨fun y=>∃u v,t1=u++v/\y.L=p++u++x::(v++w)/\y.i=p.length+u.length/\y.r=v.length,⟨⟨L,s,0,t1.length⟩,⟨[],t1,rfl,by rw [hL];simp,by show s=_;simp [hs],rfl⟩,rfl,Xt ⟨rfl,rfl,trivial⟩,⟨rfl,rfl⟩,trivial⟩,fun y hy=> ?_⟩
 obtain ⟨u,v,ht1,hyL,hyi,hyr⟩:=hy
 have luv:u.length+v.length=t1.length:=by rw [ht1,List.length_append]
 have hyl:y.L.length=l.length:=by rw [hyL,<-hsum];simp;omega
 rw [wt]
 refine ⟨fun k=> ?_,fun k=>⟨?_,rfl⟩⟩
 · have k:=of_decide_eq_true k
   cases v with
   |nil=>simp at luv;omega
   |cons z v=>
    rw [List.length_cons] at luv hyr
    have w1:wr .i64 (y.i+1)=((p.length+u.length+1:Nat):Int):=by rw [wrk (by omega) (by omega)];omega
    have g0:y.L[p.length+u.length]? =some x:=Yp (u:=p++u) (w:=z::v++w) (by rw [hyL]) (by simp)
    have g1:y.L[p.length+u.length+1]? =some z:=Yp (u:=p++u++ [x]) (w:=v++w) (by rw [hyL];simp) (by simp;omega)
    refine Vh _ w1 hyl z g1 (Vh _ (show y.i=((p.length+u.length:Nat):Int) by omega) hyl x g0 (Zid _ (show y.i=((p.length+u.length:Nat):Int) by omega) hyl (by omega) (Zid _ w1 (by rw [List.length_set];exact hyl) (by omega) ?_)))
    refine ⟨⟨_,wr .i64 (y.i+1),0,v.length⟩,⟨u++ [z],v,by rw [ht1];simp,?_,by show wr .i64 (y.i+1)=_;rw [w1];simp;omega,rfl⟩,by show v.length+1<=y.r;omega,rfl,Xt ⟨rfl,rfl,trivial⟩,⟨rfl,rfl⟩,trivial⟩
    show (y.L.set (p.length+u.length) z).set (p.length+u.length+1) x=_
    rw [Zi8 g0 g1,Zi7 _ _ _ (by omega),hyL,show p.length+u.length=(p++u).length by simp,show p++u++x::(z::v++w)=(p++u)++x::z::(v++w) by simp,Zem]
    simp
 · have k:=of_decide_eq_false k
   have hv:v= []:=List.length_eq_zero_iff.1 (by omega)
   rw [hyL,ht1,hv]
   simp
theorem Zss {l L p s2 w:List Prt} {x:Prt} {a m b t s:Int} (hL:L=p++s2++x::w) (hl:L.length=l.length) (h6:l.length<=1000000) (hs:s=p.length+s2.length) (ht:t=p.length):
 swL l a m b t s (fun k=>decide (k>t)) (fun k=>wr .i64 (k-1)) L (p++x::(s2++w)):=by
 have hsum:p.length+s2.length+w.length+1=l.length:=by rw [<-hl,hL];simp;omega
 refine ⟨fun y=>∃u v,s2=u++v/\y.L=p++u++x::(v++w)/\y.i=p.length+u.length/\y.r=u.length,⟨⟨L,s,0,s2.length⟩,⟨s2,[],by simp,by rw [hL];simp,hs,rfl⟩,rfl,Xt ⟨rfl,rfl,trivial⟩,⟨rfl,rfl⟩,trivial⟩,fun y hy=> ?_⟩
 obtain ⟨u,v,hs2,hyL,hyi,hyr⟩:=hy
 have luv:u.length+v.length=s2.length:=by rw [hs2,List.length_append]
 have hyl:y.L.length=l.length:=by rw [hyL,<-hsum];simp;omega
 refine ⟨fun k=> ?_,fun k=>⟨?_,rfl⟩⟩
 · have k:=of_decide_eq_true k
   obtain ⟨u0,z,rfl⟩:∃u0 z,u=u0++ [z]:=by
    have hne:u≠ []:=by rintro rfl;simp at hyi;omega
    exact ⟨u.dropLast,u.getLast hne,(List.dropLast_concat_getLast hne).symm⟩
   rw [List.length_append,List.length_cons,List.length_nil] at*
   have w1:wr .i64 (y.i-1)=((p.length+u0.length:Nat):Int):=by rw [wrk (by omega) (by omega)];omega
   have e1:y.i=((p.length+u0.length+1:Nat):Int):=by omega
   have g0:y.L[p.length+u0.length]? =some z:=Yp (u:=p++u0) (w:=x::(v++w)) (by rw [hyL];simp) (by simp)
   have g1:y.L[p.length+u0.length+1]? =some x:=Yp (u:=p++u0++ [z]) (w:=v++w) (by rw [hyL];simp) (by simp;omega)
   refine Vh _ w1 hyl z g0 (Vh _ e1 hyl x g1 (Zid _ e1 hyl (by omega) (Zid _ w1 (by rw [List.length_set];exact hyl) (by omega) ?_)))
   refine ⟨⟨_,wr .i64 (y.i-1),0,u0.length⟩,⟨u0,z::v,by rw [hs2];simp,?_,by show wr .i64 (y.i-1)=_;rw [w1];omega,rfl⟩,by show u0.length+1<=y.r;omega,rfl,Xt ⟨rfl,rfl,trivial⟩,⟨rfl,rfl⟩,trivial⟩
   show (y.L.set (p.length+u0.length+1) z).set (p.length+u0.length) x=_
   rw [Zi8 g1 g0,hyL,show p.length+u0.length=(p++u0).length by simp,show p++(u0++ [z])++x::(v++w)=(p++u0)++z::x::(v++w) by simp,Zem]
   simp
 · have k:=of_decide_eq_false k
   have hv:u= []:=List.length_eq_zero_iff.1 (by omega)
   rw [hyL,hs2,hv]
   simp
theorem Zst {l p T q:List Prt} {x:Prt} {a m b:Int} (hl:l=p++x::(T++q)) (h6:l.length<=1000000) (ha:a=p.length) (hm:m=p.length+1) (hb:b=p.length+1+T.length) (hM:Mrg klP ixP [x] T):
 smA l a m b (p++srtU klP ixP ([x]++T)++q):=by
 have hsum:p.length+1+T.length+q.length=l.length:=by rw [hl];simp;omega
 refine ⟨fun y=>y.L=l/\m<=y.i/\y.i<=y.j/\y.j<=b/\y.r=(y.j-y.i).toNat/\(y.i=m\/∀z,l[(y.i-1).toNat]? =some z->x.rest<z.rest)/\(y.j=b\/∀z,l[y.j.toNat]? =some z->z.rest<=x.rest),
  ⟨⟨l,m,b,(b-m).toNat⟩,⟨rfl,Int.le_refl _,by show m<=b;omega,Int.le_refl _,rfl,.inl rfl,.inl rfl⟩,rfl,Xt ⟨rfl,rfl,trivial⟩,⟨rfl,rfl⟩,trivial⟩,fun y hy=> ?_⟩
 obtain ⟨hyL,h1,h2,h3,hr,c1,c2⟩:=hy
 refine ⟨fun k=> ?_,fun k=> ?_⟩
 · have k:=of_decide_eq_true k
   have hh:X6 (y.i+y.j)=(y.i+y.j)/2:=Zat (by omega) (by omega)
   obtain ⟨z,hz⟩:∃z,l[((y.i+y.j)/2).toNat]? =some z:=⟨_,gB9 (by omega)⟩
   have g0:l[p.length]? =some x:=Yp (u:=p) (w:=T++q) hl rfl
   have w1:wr .i64 ((y.i+y.j)/2+1)=(y.i+y.j)/2+1:=wrk (by omega) (by omega)
   rw [hh,hyL,w1]
   refine Vh ((y.i+y.j)/2).toNat (by omega) rfl z hz (Vh p.length ha rfl x g0 ⟨trivial,fun c hc=>⟨fun k2=> ?_,fun k2=> ?_⟩⟩)
   · have k2:=of_decide_eq_true k2
     rw [hc] at k2
     have k2:=(Wm _ _).1 k2
     refine ⟨⟨l,(y.i+y.j)/2+1,y.j,(y.j-((y.i+y.j)/2+1)).toNat⟩,⟨rfl,by show m<=(y.i+y.j)/2+1;omega,by show (y.i+y.j)/2+1<=y.j;omega,h3,rfl,.inr fun z' hz'=> ?_,c2⟩,by show (y.j-((y.i+y.j)/2+1)).toNat+1<=y.r;omega,rfl,Xt ⟨rfl,rfl,trivial⟩,⟨rfl,rfl⟩,trivial⟩
     have hz':l[((y.i+y.j)/2+1-1).toNat]? =some z':=hz'
     rw [show (y.i+y.j)/2+1-1=(y.i+y.j)/2 by omega,hz] at hz'
     cases hz'
     exact k2
   · have k2:=of_decide_eq_false k2
     rw [hc,Wm] at k2
     refine ⟨⟨l,y.i,(y.i+y.j)/2,((y.i+y.j)/2-y.i).toNat⟩,⟨rfl,h1,by show y.i<=(y.i+y.j)/2;omega,by show (y.i+y.j)/2<=b;omega,rfl,c1,.inr fun z' hz'=> ?_⟩,by show ((y.i+y.j)/2-y.i).toNat+1<=y.r;omega,rfl,Xt ⟨rfl,rfl,trivial⟩,⟨rfl,rfl⟩,trivial⟩
     have hz':l[((y.i+y.j)/2).toNat]? =some z':=hz'
     rw [hz] at hz'
     cases hz'
     omega
 · have k:=of_decide_eq_false k
   have hij:y.i=y.j:=by omega
   obtain ⟨t1,t2,hT,ht1⟩:∃t1 t2,T=t1++t2/\y.i=p.length+1+t1.length:=⟨T.take (y.i-m).toNat,T.drop (y.i-m).toNat,(List.take_append_drop _ _).symm,by rw [List.length_take];omega⟩
   have d1:∀z∈t1,x.rest<z.rest:=by
    intro z hz
    rcases c1 with c1|c1
    · have:t1= []:=List.length_eq_zero_iff.1 (by omega)
      rw [this] at hz;cases hz
    · obtain ⟨u0,w,rfl⟩:∃u0 w,t1=u0++ [w]:=by
       have hne:t1≠ []:=by rintro rfl;cases hz
       exact ⟨t1.dropLast,t1.getLast hne,(List.dropLast_concat_getLast hne).symm⟩
      have hw:=c1 w (Yp (u:=p++x::u0) (w:=t2++q) (by rw [hl,hT];simp) (by rw [List.length_append] at ht1;simp at ht1⊢;omega))
      have hsT:Srt klP ixP (u0++ [w]++t2):=hT▸hM.ht
      have:w.rest<=z.rest:=V2 (kl:=klP) (srt_app.1 hsT).1 hz
      omega
   have d2:∀z∈t2,z.rest<=x.rest:=by
    intro z hz
    rcases c2 with c2|c2
    · have:t2= []:=List.length_eq_zero_iff.1 (by have:=congrArg List.length hT;rw [List.length_append] at this;omega)
      rw [this] at hz;cases hz
    · cases t2 with
      |nil=>cases hz
      |cons w t2=>
       have hw:=c2 w (Yp (u:=p++x::t1) (w:=t2++q) (by rw [hl,hT];simp) (by simp;omega))
       have hsT:Srt klP ixP (t1++w::t2):=hT▸hM.ht
       have:z.rest<=w.rest:=Zcc (kl:=klP) (srt_app.1 hsT).2.1 hz
       omega
   have hres:srtU klP ixP ([x]++T)=t1++x::t2:=by
    refine U7 hM.hd (Zg6 (hT▸hM.ht) (fun z hz=>hM.hlt x (by simp) z (by rw [hT];exact hz)) d1 d2) ?_
    rw [hT]
    exact List.perm_middle
   rw [hres,hyL]
   have:=Zsr (l:=l) (L:=l) (p:=p) (t1:=t1) (w:=t2++q) (x:=x) (a:=a) (m:=m) (b:=b) (t:=y.i) (s:=a) (by rw [hl,hT];simp) rfl h6 ha ht1
   rw [show p++(t1++x::t2)++q=p++t1++x::(t2++q) by simp]
   exact this
theorem Zsu {l p S q:List Prt} {x:Prt} {a m b:Int} (hl:l=p++S++x::q) (h6:l.length<=1000000) (ha:a=p.length) (hm:m=p.length+S.length) (hb:b=p.length+S.length+1) (hM:Mrg klP ixP S [x]):
 smB l a m b (p++srtU klP ixP (S++ [x])++q):=by
 have hsum:p.length+S.length+1+q.length=l.length:=by rw [hl];simp;omega
 refine ⟨fun y=>y.L=l/\a<=y.i/\y.i<=y.j/\y.j<=m/\y.r=(y.j-y.i).toNat/\(y.i=a\/∀z,l[(y.i-1).toNat]? =some z->x.rest<=z.rest)/\(y.j=m\/∀z,l[y.j.toNat]? =some z->z.rest<x.rest),
  ⟨⟨l,a,m,(m-a).toNat⟩,⟨rfl,Int.le_refl _,by show a<=m;omega,Int.le_refl _,rfl,.inl rfl,.inl rfl⟩,rfl,Xt ⟨rfl,rfl,trivial⟩,⟨rfl,rfl⟩,trivial⟩,fun y hy=> ?_⟩
 obtain ⟨hyL,h1,h2,h3,hr,c1,c2⟩:=hy
 refine ⟨fun k=> ?_,fun k=> ?_⟩
 · have k:=of_decide_eq_true k
   have hh:X6 (y.i+y.j)=(y.i+y.j)/2:=Zat (by omega) (by omega)
   obtain ⟨z,hz⟩:∃z,l[((y.i+y.j)/2).toNat]? =some z:=⟨_,gB9 (by omega)⟩
   have g0:l[p.length+S.length]? =some x:=Yp (u:=p++S) (w:=q) hl (by simp)
   have w1:wr .i64 ((y.i+y.j)/2+1)=(y.i+y.j)/2+1:=wrk (by omega) (by omega)
   rw [hh,hyL,w1]
   refine Vh (p.length+S.length) (by omega) rfl x g0 (Vh ((y.i+y.j)/2).toNat (by omega) rfl z hz ⟨trivial,fun c hc=>⟨fun k2=> ?_,fun k2=> ?_⟩⟩)
   · have k2:=of_decide_eq_true k2
     rw [hc] at k2
     have k2:=(Wm _ _).1 k2
     refine ⟨⟨l,y.i,(y.i+y.j)/2,((y.i+y.j)/2-y.i).toNat⟩,⟨rfl,h1,by show y.i<=(y.i+y.j)/2;omega,by show (y.i+y.j)/2<=m;omega,rfl,c1,.inr fun z' hz'=> ?_⟩,by show ((y.i+y.j)/2-y.i).toNat+1<=y.r;omega,rfl,Xt ⟨rfl,rfl,trivial⟩,⟨rfl,rfl⟩,trivial⟩
     have hz':l[((y.i+y.j)/2).toNat]? =some z':=hz'
     rw [hz] at hz'
     cases hz'
     exact k2
   · have k2:=of_decide_eq_false k2
     rw [hc,Wm] at k2
     refine ⟨⟨l,(y.i+y.j)/2+1,y.j,(y.j-((y.i+y.j)/2+1)).toNat⟩,⟨rfl,by show a<=(y.i+y.j)/2+1;omega,by show (y.i+y.j)/2+1<=y.j;omega,h3,rfl,.inr fun z' hz'=> ?_,c2⟩,by show (y.j-((y.i+y.j)/2+1)).toNat+1<=y.r;omega,rfl,Xt ⟨rfl,rfl,trivial⟩,⟨rfl,rfl⟩,trivial⟩
     have hz':l[((y.i+y.j)/2+1-1).toNat]? =some z':=hz'
     rw [show (y.i+y.j)/2+1-1=(y.i+y.j)/2 by omega,hz] at hz'
     cases hz'
     omega
 · have k:=of_decide_eq_false k
   have hij:y.i=y.j:=by omega
   obtain ⟨s1,s2,hS,hs1⟩:∃s1 s2,S=s1++s2/\y.i=p.length+s1.length:=⟨S.take (y.i-a).toNat,S.drop (y.i-a).toNat,(List.take_append_drop _ _).symm,by rw [List.length_take];omega⟩
   have lS:s1.length+s2.length=S.length:=by rw [hS,List.length_append]
   have d1:∀z∈s1,x.rest<=z.rest:=by
    intro z hz
    rcases c1 with c1|c1
    · have:s1= []:=List.length_eq_zero_iff.1 (by omega)
      rw [this] at hz;cases hz
    · obtain ⟨u0,w,rfl⟩:∃u0 w,s1=u0++ [w]:=by
       have hne:s1≠ []:=by rintro rfl;cases hz
       exact ⟨s1.dropLast,s1.getLast hne,(List.dropLast_concat_getLast hne).symm⟩
      have hw:=c1 w (Yp (u:=p++u0) (w:=s2++x::q) (by rw [hl,hS];simp) (by rw [List.length_append] at hs1;simp at hs1⊢;omega))
      have hsS:Srt klP ixP (u0++ [w]++s2):=hS▸hM.hs
      have:w.rest<=z.rest:=V2 (kl:=klP) (srt_app.1 hsS).1 hz
      omega
   have d2:∀z∈s2,z.rest<x.rest:=by
    intro z hz
    rcases c2 with c2|c2
    · have:s2= []:=List.length_eq_zero_iff.1 (by omega)
      rw [this] at hz;cases hz
    · cases s2 with
      |nil=>cases hz
      |cons w s2=>
       have hw:=c2 w (Yp (u:=p++s1) (w:=s2++x::q) (by rw [hl,hS];simp) (by simp;omega))
       have hsS:Srt klP ixP (s1++w::s2):=hS▸hM.hs
       have:z.rest<=w.rest:=Zcc (kl:=klP) (srt_app.1 hsS).2.1 hz
       omega
   have hres:srtU klP ixP (S++ [x])=s1++x::s2:=by
    refine U7 hM.hd (Zac (hS▸hM.hs) (fun z hz=>hM.hlt z (by rw [hS];exact hz) x (by simp)) d1 d2) ?_
    rw [hS]
    exact List.perm_middle.trans (List.perm_append_comm (l₁:= [x]) (l₂:=s1++s2))
   rw [hres,hyL]
   have:=Zss (l:=l) (L:=l) (p:=p++s1) (s2:=s2) (w:=q) (x:=x) (a:=a) (m:=m) (b:=b) (t:=y.i) (s:=m) (by rw [hl,hS];simp) rfl h6 (by simp;omega) (by simp;omega)
   rw [show p++(s1++x::s2)++q=p++s1++x::(s2++q) by simp]
   exact this
end
section
open Go Go.RowKit
theorem Zeg {p S T q:List Prt} {a m b:Int} (ha:a=p.length) (hb:b=p.length+S.length+T.length):smF (p++S++T++q) (a,m,b,(),())=p++srtU klP ixP (S++T)++q:=by
 subst ha
 unfold smF
 show repl _ (p.length:Int).toNat b.toNat (srtU klP ixP (seg _ (p.length:Int).toNat b.toNat))=_
 rw [Int.toNat_natCast,show p++S++T++q=p++(S++T)++q by simp,show b.toNat=p.length+(S++T).length by simp;omega,Zb9,Zel]
theorem Zeh {N:Int} {p S T q:List Prt} {a m b:Int} (ha:a=p.length) (hm:m=p.length+S.length) (hb:b=p.length+S.length+T.length) (h1:0<S.length) (h2:0<T.length) (h6:(p++S++T++q).length<=1000000) (hN:b-a<N) (hM:Mrg klP ixP S T):
 Zkd N (p++S++T++q) (a,m,b,(),()):=by
 subst ha
 have e1:seg (p++S++T++q) (p.length:Int).toNat m.toNat=S:=by
  rw [Int.toNat_natCast,show m.toNat=p.length+S.length by omega,show p++S++T++q=p++S++(T++q) by simp,Zb9]
 have e2:seg (p++S++T++q) m.toNat b.toNat=T:=by
  rw [show m.toNat=(p++S).length by simp;omega,show b.toNat=(p++S).length+T.length by simp;omega,Zb9]
 refine ⟨by show (0:Int)<=p.length;omega,by show (p.length:Int)<m;omega,by show m<b;omega,by show b<=((p++S++T++q).length:Int);simp;omega,h6,hN,?_⟩
 show Mrg klP ixP (seg (p++S++T++q) (p.length:Int).toNat m.toNat) (seg (p++S++T++q) m.toNat b.toNat)
 rw [e1,e2]
 exact hM
theorem Zi1 {S T:List Prt} (h:Mrg klP ixP S T) (h0:S= []\/T= []):srtU klP ixP (S++T)=S++T:=by
 refine Znq h.hd ?_
 rcases h0 with rfl|rfl
 · exact h.ht
 · rw [List.append_nil];exact h.hs
theorem Zr1 {N:Int} {l P S T q:List Prt} {b mid e:Int} (hmid:mid=P.length) (he:e=P.length+S.length) (hb:b=P.length+S.length+T.length) (hl:(P++S++T++q).length=l.length) (h6:l.length<=1000000) (hN:b-mid<N) (hM:Mrg klP ixP S T):
 smT3 N l b mid e (P++S++T++q) (P++srtU klP ixP (S++T)++q):=by
 by_cases hc:mid<e/\e<b
 · refine ⟨fun q=>q=true,⟨fun _=>⟨fun _=>rfl,fun k=>absurd hc.2 (of_decide_eq_false k)⟩,fun k=>absurd hc.1 (of_decide_eq_false k)⟩,fun _=>⟨⟨hl.symm,Zeh hmid he hb (by omega) (by omega) (by rw [hl];exact h6) hN hM⟩,fun l' hl'=>⟨?_,rfl⟩⟩,fun k=>by cases k⟩
   rw [hl',Zeg hmid hb]
 · refine ⟨fun q=>q=false,⟨fun k1=>⟨fun k2=>absurd ⟨of_decide_eq_true k1,of_decide_eq_true k2⟩ hc,fun _=>rfl⟩,fun _=>rfl⟩,fun k=>(by cases k),fun _=>⟨?_,rfl⟩⟩
   rw [Zi1 hM (by
    by_cases h0:S= []
    · exact .inl h0
    · have:=List.length_pos_iff.2 h0
      exact .inr (List.length_eq_zero_iff.1 (by omega)))]
   simp
theorem Zr2 {N:Int} {l p s1 t1 s2 t2 q:List Prt} {a b mid st e:Int} (ha:a=p.length) (hst:st=p.length+s1.length) (hmid:mid=p.length+s1.length+t1.length) (he:e=p.length+s1.length+t1.length+s2.length) (hb:b=p.length+s1.length+t1.length+s2.length+t2.length)
 (hl:(p++s1++t1++s2++t2++q).length=l.length) (h6:l.length<=1000000) (hN1:mid-a<N) (hN2:b-mid<N) (hM1:Mrg klP ixP s1 t1) (hM2:Mrg klP ixP s2 t2):
 smT2 N l a b mid st e (p++s1++t1++s2++t2++q) (p++(srtU klP ixP (s1++t1)++srtU klP ixP (s2++t2))++q):=by
 have hlen:=Y3 (kl:=klP) (ix:=ixP) (s1++t1)
 rw [List.length_append] at hlen
 have t3:smT3 N l b mid e (p++srtU klP ixP (s1++t1)++s2++t2++q) (p++(srtU klP ixP (s1++t1)++srtU klP ixP (s2++t2))++q):=by
  have:=Zr1 (N:=N) (l:=l) (P:=p++srtU klP ixP (s1++t1)) (S:=s2) (T:=t2) (q:=q) (b:=b) (mid:=mid) (e:=e) (by simp;omega) (by simp;omega) (by simp;omega) (by rw [<-hl];simp;omega) h6 hN2 hM2
  rw [show p++(srtU klP ixP (s1++t1)++srtU klP ixP (s2++t2))++q=p++srtU klP ixP (s1++t1)++srtU klP ixP (s2++t2)++q by simp]
  exact this
 have e0:p++s1++t1++s2++t2++q=p++s1++t1++(s2++t2++q):=by simp
 by_cases hc:a<st/\st<mid
 · refine ⟨fun q=>q=true,⟨fun _=>⟨fun _=>rfl,fun k=>absurd hc.2 (of_decide_eq_false k)⟩,fun k=>absurd hc.1 (of_decide_eq_false k)⟩,fun _=>⟨⟨hl.symm,?_⟩,fun l' hl'=> ?_⟩,fun k=>by cases k⟩
   · rw [e0]
     exact Zeh ha hst hmid (by omega) (by omega) (by rw [<-e0,hl];exact h6) hN1 hM1
   · rw [hl',e0,Zeg ha hmid,show p++srtU klP ixP (s1++t1)++(s2++t2++q)=p++srtU klP ixP (s1++t1)++s2++t2++q by simp]
     exact t3
 · refine ⟨fun q=>q=false,⟨fun k1=>⟨fun k2=>absurd ⟨of_decide_eq_true k1,of_decide_eq_true k2⟩ hc,fun _=>rfl⟩,fun _=>rfl⟩,fun k=>(by cases k),fun _=> ?_⟩
   have hs:=Zi1 hM1 (by
    by_cases h0:s1= []
    · exact .inl h0
    · have:=List.length_pos_iff.2 h0
      exact .inr (List.length_eq_zero_iff.1 (by omega)))
   rw [hs] at t3⊢
   rw [show p++s1++t1++s2++t2++q=p++(s1++t1)++s2++t2++q by simp]
   exact t3
theorem Zr3 {N:Int} {l p s1 s2 t1 t2 q:List Prt} {a m b mid st e:Int} (ha:a=p.length) (hst:st=p.length+s1.length) (hm:m=p.length+s1.length+s2.length) (hmid:mid=p.length+s1.length+t1.length) (he:e=p.length+s1.length+t1.length+s2.length) (hb:b=p.length+s1.length+t1.length+s2.length+t2.length)
 (hl:l=p++s1++s2++t1++t2++q) (h6:l.length<=1000000) (hN1:mid-a<N) (hN2:b-mid<N) (hM:Mrg klP ixP (s1++s2) (t1++t2)) (c1:∀x∈s2.head?,∀y∈t1.getLast?,x.rest<y.rest) (c2:∀x∈s1.getLast?,∀y∈t2.head?,y.rest<=x.rest):
 smT1 N l a m b mid st e l (p++srtU klP ixP (s1++s2++(t1++t2))++q):=by
 obtain ⟨hM1,hM2⟩:=Zge hM
 have hh:=Zk3 hM c1 c2
 have t2':=Zr2 (N:=N) (l:=l) (q:=q) ha hst hmid he hb (by rw [hl];simp;omega) h6 hN1 hN2 hM1 hM2
 rw [hh] at t2'
 by_cases hc:st<m/\m<e
 · refine ⟨fun q=>q=true,⟨fun _=>⟨fun _=>rfl,fun k=>absurd hc.2 (of_decide_eq_false k)⟩,fun k=>absurd hc.1 (of_decide_eq_false k)⟩,fun _=>⟨⟨rfl,?_⟩,fun l' hl'=> ?_⟩,fun k=>by cases k⟩
   · refine ⟨by show 0<=st;omega,by show st<m;omega,by show m<e;omega,?_,h6⟩
     show e<=(l.length:Int)
     rw [hl];simp;omega
   · have el:l=(p++s1)++(s2++t1)++(t2++q):=by rw [hl];simp
     have e1:seg l m.toNat e.toNat=t1:=by
      rw [show l=(p++s1++s2)++t1++(t2++q) by rw [hl];simp]
      exact Vk (by simp;omega) (by omega)
     have e2:seg l st.toNat m.toNat=s2:=by
      rw [show l=(p++s1)++s2++(t1++t2++q) by rw [hl];simp]
      exact Vk (by simp;omega) (by omega)
     have e3:l'=p++s1++t1++s2++t2++q:=by
      rw [hl',e1,e2,el,Zhs (by simp;omega) (by simp;omega)]
      simp
     rw [e3]
     exact t2'
 · refine ⟨fun q=>q=false,⟨fun k1=>⟨fun k2=>absurd ⟨of_decide_eq_true k1,of_decide_eq_true k2⟩ hc,fun _=>rfl⟩,fun _=>rfl⟩,fun k=>(by cases k),fun _=> ?_⟩
   have hs:p++s1++t1++s2++t2++q=l:=by
    rw [hl]
    by_cases h0:s2= []
    · rw [h0];simp
    · have:=List.length_pos_iff.2 h0
      have:t1= []:=List.length_eq_zero_iff.1 (by omega)
      rw [this];simp
   rw [hs] at t2'
   exact t2'
theorem Zqd {N:Int} {l p S T q:List Prt} {a m b mid n pp s0 r0:Int} (hl:l=p++S++T++q) (h6:l.length<=1000000) (ha:a=p.length) (hm:m=p.length+S.length) (hb:b=p.length+S.length+T.length) (hM:Mrg klP ixP S T) (hmid:mid=(a+b)/2) (hn:n=mid+m) (hpp:pp=n-1)
 (h1:2<=m-a) (h2:2<=b-m) (hN:b-a<=N) (hsr:(m>mid/\s0=n-b/\r0=mid)\/(m<=mid/\s0=a/\r0=m)):
 smC N l a m b mid n pp s0 r0 (p++srtU klP ixP (S++T)++q):=by
 have hsum:p.length+S.length+T.length+q.length=l.length:=by rw [hl];simp;omega
 have hb0:s0<=r0/\a<=s0/\r0<=m/\r0<=mid/\n-s0<=b/\m<=n-r0:=by omega
 refine ⟨fun y=>y.L=l/\s0<=y.i/\y.i<=y.j/\y.j<=r0/\y.r=(y.j-y.i).toNat/\(y.i=s0\/∀u v,l[(pp-(y.i-1)).toNat]? =some u->l[(y.i-1).toNat]? =some v->u.rest<=v.rest)/\(y.j=r0\/∀u v,l[(pp-y.j).toNat]? =some u->l[y.j.toNat]? =some v->v.rest<u.rest),
  ⟨⟨l,s0,r0,(r0-s0).toNat⟩,⟨rfl,Int.le_refl _,hb0.1,Int.le_refl _,rfl,.inl rfl,.inl rfl⟩,rfl,Xt ⟨rfl,rfl,rfl,rfl,rfl,trivial⟩,⟨rfl,rfl⟩,trivial⟩,fun y hy=> ?_⟩
 obtain ⟨hyL,g1,g2,g3,hr,c1,c2⟩:=hy
 refine ⟨fun k=> ?_,fun k=> ?_⟩
 · have k:=of_decide_eq_true k
   have hh:X6 (y.i+y.j)=(y.i+y.j)/2:=Zat (by omega) (by omega)
   obtain ⟨c,hc⟩:∃c,c=(y.i+y.j)/2:=⟨_,rfl⟩
   have hcb:y.i<=c/\c<y.j:=by omega
   obtain ⟨z,hz⟩:∃z,l[c.toNat]? =some z:=⟨_,gB9 (by omega)⟩
   obtain ⟨w,hw⟩:∃w,l[(pp-c).toNat]? =some w:=⟨_,gB9 (by omega)⟩
   have w1:wr .i64 (c+1)=c+1:=wrk (by omega) (by omega)
   have w2:wr .i64 (pp-c)=pp-c:=wrk (by omega) (by omega)
   rw [hh,hyL,<-hc,w1,w2]
   refine Vh (pp-c).toNat (by omega) rfl w hw (Vh c.toNat (by omega) rfl z hz ⟨trivial,fun d hd=>⟨fun k2=> ?_,fun k2=> ?_⟩⟩)
   · have k2:=of_decide_eq_true k2
     rw [hd] at k2
     have k2:=(Wm _ _).1 k2
     refine ⟨⟨l,y.i,c,(c-y.i).toNat⟩,⟨rfl,g1,hcb.1,by show c<=r0;omega,rfl,c1,.inr fun u v hu hv=> ?_⟩,by show (c-y.i).toNat+1<=y.r;omega,rfl,Xt ⟨rfl,rfl,rfl,rfl,rfl,trivial⟩,⟨rfl,rfl⟩,trivial⟩
     have hu:l[(pp-c).toNat]? =some u:=hu
     have hv:l[c.toNat]? =some v:=hv
     rw [hw] at hu
     rw [hz] at hv
     cases hu
     cases hv
     exact k2
   · have k2:=of_decide_eq_false k2
     rw [hd,Wm] at k2
     refine ⟨⟨l,c+1,y.j,(y.j-(c+1)).toNat⟩,⟨rfl,by show s0<=c+1;omega,by show c+1<=y.j;omega,g3,rfl,.inr fun u v hu hv=> ?_,c2⟩,by show (y.j-(c+1)).toNat+1<=y.r;omega,rfl,Xt ⟨rfl,rfl,rfl,rfl,rfl,trivial⟩,⟨rfl,rfl⟩,trivial⟩
     have hu:l[(pp-(c+1-1)).toNat]? =some u:=hu
     have hv:l[(c+1-1).toNat]? =some v:=hv
     rw [show c+1-1=c by omega] at hu hv
     rw [hw] at hu
     rw [hz] at hv
     cases hu
     cases hv
     omega
 · have k:=of_decide_eq_false k
   have hij:y.i=y.j:=by omega
   have we:wr .i64 (n-y.i)=n-y.i:=wrk (by omega) (by omega)
   rw [we,hyL]
   obtain ⟨st,hst⟩:∃st,st=y.i:=⟨_,rfl⟩
   rw [<-hij] at c2 g3
   rw [<-hst] at c1 c2 g1 g3⊢
   obtain ⟨s1,s2,hS,hs1⟩:∃s1 s2,S=s1++s2/\st=p.length+s1.length:=⟨S.take (st-a).toNat,S.drop (st-a).toNat,(List.take_append_drop _ _).symm,by rw [List.length_take];omega⟩
   obtain ⟨t1,t2,hT,ht1⟩:∃t1 t2,T=t1++t2/\n-st=m+t1.length:=⟨T.take (n-st-m).toNat,T.drop (n-st-m).toNat,(List.take_append_drop _ _).symm,by rw [List.length_take];omega⟩
   have lS:s1.length+s2.length=S.length:=by rw [hS,List.length_append]
   have lT:t1.length+t2.length=T.length:=by rw [hT,List.length_append]
   have hl':l=p++s1++s2++t1++t2++q:=by rw [hl,hS,hT];simp
   have d1:∀x∈s2.head?,∀z∈t1.getLast?,x.rest<z.rest:=by
    intro x hx z hz
    cases s2 with
    |nil=>cases hx
    |cons x' s2=>
     obtain rfl:x'=x:=by simpa using hx
     obtain ⟨u0,rfl⟩:∃u0,t1=u0++ [z]:=by
      rw [Option.mem_def,List.getLast?_eq_some_iff] at hz
      exact hz
     rw [List.length_append,List.length_cons,List.length_nil] at ht1 lT
     rw [List.length_cons] at lS
     rcases c2 with c2|c2
     · omega
     · refine c2 z x' (Yp (u:=p++s1++x'::s2++u0) (w:=t2++q) (by rw [hl'];simp) (by simp;omega)) (Yp (u:=p++s1) (w:=s2++(u0++ [z])++t2++q) (by rw [hl'];simp) (by simp;omega))
   have d2:∀x∈s1.getLast?,∀z∈t2.head?,z.rest<=x.rest:=by
    intro x hx z hz
    cases t2 with
    |nil=>cases hz
    |cons z' t2=>
     obtain rfl:z'=z:=by simpa using hz
     obtain ⟨u0,rfl⟩:∃u0,s1=u0++ [x]:=by
      rw [Option.mem_def,List.getLast?_eq_some_iff] at hx
      exact hx
     rw [List.length_append,List.length_cons,List.length_nil] at hs1 lS
     rw [List.length_cons] at lT
     rcases c1 with c1|c1
     · omega
     · refine c1 z' x (Yp (u:=p++(u0++ [x])++s2++t1) (w:=t2++q) (by rw [hl'];simp) (by simp;omega)) (Yp (u:=p++u0) (w:=s2++t1++z'::t2++q) (by rw [hl'];simp) (by simp;omega))
   have:=Zr3 (N:=N) (l:=l) (p:=p) (s1:=s1) (s2:=s2) (t1:=t1) (t2:=t2) (q:=q) (a:=a) (m:=m) (b:=b) (mid:=mid) (st:=st) (e:=n-st) ha hs1 (by omega) (by omega) (by omega) (by omega) hl' h6 (by omega) (by omega) (by rw [<-hS,<-hT];exact hM) d1 d2
   rw [hS,hT]
   exact this
theorem Ztp {N:Int} (hN:SumOk E 68 (Ssm N)):FnsOk E (Fsm N):=Zp E_ok (Zp E_ok (Zp E_ok (Zp E_ok (Zp E_ok (Zx (Zx Zc2 Ztj) hN) _ _ _) _ _ _) _ _ _) _ _ _) _ _ _
theorem Zt7 {N:Int} (hN:SumOk E 68 (Ssm N)) (l:List Prt) (x:Int×Int×Int×Unit×Unit) (h:Zkd (N+1) l x):InpC E 68 Th.parts (dI3.enc x) l (smF l x):=by
 obtain ⟨a,m,b,⟨⟩,⟨⟩⟩:=x
 obtain ⟨h1,h2,h3,h4,h5,h6,h7⟩:0<=a/\a<m/\m<b/\b<=l.length/\l.length<=1000000/\b-a<N+1/\Mrg klP ixP (seg l a.toNat m.toNat) (seg l m.toNat b.toNat):=h
 obtain ⟨A,rfl⟩:=Int.eq_ofNat_of_zero_le h1
 obtain ⟨M,rfl⟩:=Int.eq_ofNat_of_zero_le (by omega:0<=m)
 obtain ⟨B,rfl⟩:=Int.eq_ofNat_of_zero_le (by omega:0<=b)
 rw [Int.toNat_natCast,Int.toNat_natCast,Int.toNat_natCast] at h7
 obtain ⟨p,S,q1,e1,hp,hX⟩:=Zca l (show A<=M by omega) (by omega)
 have hq1:q1.length=l.length-M:=by rw [e1];simp;omega
 obtain ⟨r,T,q,e2,hr,hY⟩:=Zca q1 (show 0<=B-M by omega) (by omega)
 obtain rfl:r= []:=List.length_eq_zero_iff.1 hr
 rw [Nat.zero_add] at hY
 have hl:l=p++S++T++q:=by rw [e1,e2];simp
 have s1:seg l M B=T:=by rw [hl];exact Vk (p:=p++S) (by simp;omega) (by omega)
 have s2:seg l A M=S:=by rw [hl,List.append_assoc];exact Vk hp hX
 rw [s1,s2] at h7
 have hF:smF l ((A:Int),(M:Int),(B:Int),(),())=p++srtU klP ixP (S++T)++q:=by
  rw [hl]
  exact Zeg (by omega) (by omega)
 refine Zd0 hF ?_
 refine Y7 E_ok (Zas E_ok F0_ok fun f n c=>(Zqx E_ok (Ztp hN) 400 f n c).1) rfl ?_
 refine Eq.mpr (Zs7 N l _ A M B) ?_
 have w1:wr .i64 ((M:Int)-A)=(M:Int)-A:=wrk (by omega) (by omega)
 have w2:wr .i64 ((B:Int)-M)=(B:Int)-M:=wrk (by omega) (by omega)
 have hz:X6 ((A:Int)+B)=((A:Int)+B)/2:=Zat (by omega) (by omega)
 have w3:wr .i64 (((A:Int)+B)/2+M)=((A:Int)+B)/2+M:=wrk (by omega) (by omega)
 have w4:wr .i64 (((A:Int)+B)/2+M-1)=((A:Int)+B)/2+M-1:=wrk (by omega) (by omega)
 have w5:wr .i64 (((A:Int)+B)/2+M-B)=((A:Int)+B)/2+M-B:=wrk (by omega) (by omega)
 rw [hz,w3,w4]
 refine ⟨fun k=> ?_,fun k=>⟨fun k2=> ?_,fun k2=> ?_⟩⟩
 · rw [w1] at k
   have k:(M:Int)-A=1:=beq_iff_eq.1 k
   obtain ⟨x,rfl⟩:=List.length_eq_one_iff.1 (show S.length=1 by omega)
   exact Zst (by rw [hl];simp) h5 (by omega) (by omega) (by omega) h7
 · rw [w2] at k2
   have k2:(B:Int)-M=1:=beq_iff_eq.1 k2
   obtain ⟨x,rfl⟩:=List.length_eq_one_iff.1 (show T.length=1 by omega)
   exact Zsu (by rw [hl];simp) h5 (by omega) (by omega) (by omega) h7
 · rw [w1] at k
   rw [w2] at k2
   have k:(M:Int)-A≠1:=beq_eq_false_iff_ne.1 k
   have k2:(B:Int)-M≠1:=beq_eq_false_iff_ne.1 k2
   rw [w5]
   refine ⟨fun k3=> ?_,fun k3=> ?_⟩
   · have k3:=of_decide_eq_true k3
     exact Zqd hl h5 (by omega) (by omega) (by omega) h7 rfl rfl rfl (by omega) (by omega) (by omega) (.inl ⟨k3,rfl,rfl⟩)
   · have k3:=of_decide_eq_false k3
     exact Zqd hl h5 (by omega) (by omega) (by omega) h7 rfl rfl rfl (by omega) (by omega) (by omega) (.inr ⟨by omega,rfl,rfl⟩)
theorem Zqe:∀N:Nat,SumOk E 68 (Ssm (N:Int))
 |0=>W0 E_ok (Zw (f:=68) rfl) fun x l h=>by
  obtain ⟨h1,h2,h3,h4,h5,h6,h7⟩:=h
  exfalso
  have h6:x.2.2.1-x.1<0:=h6
  omega
 |N+1=>W0 E_ok (Zw (f:=68) rfl) fun x l h=>Zt7 (Zqe N) l x h
end
section
open Go Go.RowKit
inductive Blk20 (s:Nat):List Prt->List Prt->Prop
 |one {l:List Prt}:l.length<=s->Blk20 s l (srtU klP ixP l)
 |more {a l L:List Prt}:a.length=s->Blk20 s l L->Blk20 s (a++l) (srtU klP ixP a++L)
theorem Blk20.len {s:Nat} {l L:List Prt} (h:Blk20 s l L):L.length=l.length:=by
 induction h with
 |one h=>exact Y3 _
 |more h _ ih=>rw [List.length_append,List.length_append,Y3,ih]
theorem Blk20.split {s:Nat} {l L:List Prt} (h:Blk20 s l L) (hs:s<=l.length):∃a l' L',l=a++l'/\a.length=s/\L=srtU klP ixP a++L'/\Blk20 s l' L':=by
 cases h with
 |one h=>exact ⟨l,[],[],by simp,by omega,by simp,.one (Nat.zero_le _)⟩
 |more h1 h2=>exact ⟨_,_,_,rfl,h1,rfl,h2⟩
theorem Blk20.whole {s:Nat} {l L:List Prt} (h:Blk20 s l L) (hs:l.length<=s):L=srtU klP ixP l:=by
 cases h with
 |one h=>rfl
 |more h1 h2=>
  rename_i a l' L'
  rw [List.length_append] at hs
  obtain rfl:l'= []:=List.length_eq_zero_iff.1 (by omega)
  obtain rfl:L'= []:=List.length_eq_zero_iff.1 (by rw [h2.len];rfl)
  simp
theorem Zri {a b:List Prt} (h:(a++b).Pairwise fun (p q:Prt)=>p.idx<q.idx):Mrg klP ixP (srtU klP ixP a) (srtU klP ixP b):=by
 have hd:=Zbp h
 obtain ⟨h1,h2,h3⟩:=List.pairwise_append.1 h
 refine ⟨Y4 (Zbp h1),Y4 (Zbp h2),hd.perm ((Zo a).symm.append (Zo b).symm),fun x hx y hy=>h3 x ((Zo a).mem_iff.1 hx) y ((Zo b).mem_iff.1 hy)⟩
theorem Zrj {a b:List Prt} (h:(a++b).Pairwise fun (p q:Prt)=>p.idx<q.idx):srtU klP ixP (srtU klP ixP a++srtU klP ixP b)=srtU klP ixP (a++b):=by
 have hd:=Zbp h
 have p:(srtU klP ixP a++srtU klP ixP b).Perm (a++b):=(Zo a).append (Zo b)
 exact U7 (hd.perm p.symm) (Y4 hd) ((Zo (a++b)).trans p.symm)
theorem Zp4 {α:Type} {R:α->α->Prop} {a b c:List α} (h:(a++b++c).Pairwise R):b.Pairwise R:=(List.pairwise_append.1 (List.pairwise_append.1 h).1).2.1
theorem Ztb (N:Nat):FnsOk E (Fst (N:Int)):=Zp E_ok (Zp E_ok (Zp E_ok (Zx (Zx Zc2 Zte) (Zqe N)) _ _ _) _ _ _) _ _ _
theorem Ztc (l:List Prt) (h6:l.length<=1000000) (hl:l.Pairwise fun (p q:Prt)=>p.idx<q.idx):InpC E 46 Th.parts [.int false .i64 (l.length:Int),cmpP] l (srtU klP ixP l):=by
 refine Y7 E_ok (Zm E_ok (Ztb 1000001) 400) rfl ?_
 refine Eq.mpr (Zs9 _ l _) ?_
 refine ⟨fun x=>∃l1 l2 L1,l=l1++l2/\x.L=L1++l2/\L1.length=l1.length/\x.i=l1.length/\x.j=l1.length+20/\x.r=l2.length/\∀l' L',Blk20 20 l' L'->Blk20 20 (l1++l') (L1++L'),
  ⟨⟨l,0,20,l.length⟩,⟨[],l,[],rfl,rfl,rfl,rfl,rfl,rfl,fun _ _ h=>h⟩,rfl,⟨⟨rfl,rfl,trivial⟩,rfl,⟨rfl,trivial,trivial⟩,rfl,rfl,rfl,trivial⟩,⟨rfl,rfl⟩,trivial⟩,fun x hx=> ?_⟩
 obtain ⟨l1,l2,L1,hl12,hL,hLl,hi,hj,hr,hcl⟩:=hx
 have hlen:l1.length+l2.length=l.length:=by rw [hl12,List.length_append]
 have hxl:x.L.length=l.length:=by rw [hL,List.length_append];omega
 have isE:∀(a q:List Prt) (j:Int),l2=a++q->j=l1.length+a.length->isF x.L (x.i,j,(),())=L1++srtU klP ixP a++q/\seg x.L x.i.toNat j.toNat=a:=by
  intro a q j ha hj2
  have e1:x.i.toNat=L1.length:=by omega
  have e2:j.toNat=L1.length+a.length:=by omega
  have e3:x.L=L1++a++q:=by rw [hL,ha];simp
  have e4:seg x.L x.i.toNat j.toNat=a:=by rw [e1,e2,e3,Zb9]
  refine ⟨?_,e4⟩
  show repl x.L x.i.toNat j.toNat (srtU klP ixP (seg x.L x.i.toNat j.toNat))=_
  rw [e4,e1,e2,e3,Zel]
 refine ⟨fun k=> ?_,fun k=> ?_⟩
 · have k:=of_decide_eq_true k
   obtain ⟨a,q,ha,hal⟩:∃a q,l2=a++q/\a.length=20:=⟨l2.take 20,l2.drop 20,(List.take_append_drop _ _).symm,by rw [List.length_take];omega⟩
   obtain ⟨i1,i2⟩:=isE a q x.j ha (by omega)
   have hpa:a.Pairwise fun (p q:Prt)=>p.idx<q.idx:=by
    rw [hl12,ha,<-List.append_assoc] at hl
    exact Zp4 hl
   refine ⟨⟨hxl.symm,by omega,by omega,by omega,by omega,by rw [i2];exact hpa⟩,fun l' hl'=> ?_⟩
   have lq:a.length+q.length=l2.length:=by rw [ha,List.length_append]
   have wj:wr .i64 (x.j+20)=x.j+20:=wrk (by omega) (by omega)
   refine ⟨⟨l',x.j,x.j+20,q.length⟩,⟨l1++a,q,L1++srtU klP ixP a,by rw [hl12,ha];simp,hl'.trans i1,by rw [List.length_append,List.length_append,Y3];omega,?_,?_,rfl,fun l'' L'' hb=> ?_⟩,by show q.length+1<=x.r;omega,rfl,⟨⟨rfl,rfl,trivial⟩,rfl,⟨rfl,trivial,trivial⟩,rfl,rfl,wj,trivial⟩,⟨rfl,rfl⟩,trivial⟩
   · show x.j=_;rw [List.length_append];omega
   · show x.j+20=_;rw [List.length_append];omega
   · rw [List.append_assoc,List.append_assoc]
     exact hcl _ _ (.more hal hb)
 · have k:=of_decide_eq_false k
   obtain ⟨i1,i2⟩:=isE l2 [] (l.length:Int) (by simp) (by omega)
   have hp2:l2.Pairwise fun (p q:Prt)=>p.idx<q.idx:=by rw [hl12] at hl;exact (List.pairwise_append.1 hl).2.1
   rw [List.append_nil] at i1
   refine ⟨⟨hxl.symm,by omega,by omega,by omega,by omega,by rw [i2];exact hp2⟩,fun l' hl'=> ?_⟩
   have hb0:Blk20 20 l l':=by
    rw [hl'.trans i1,hl12]
    exact hcl _ _ (.one (by omega))
   refine ⟨fun y=>∃s:Nat,20<=s/\s<=2097152/\y.i=s/\Blk20 s l y.L/\y.r=2097152-s,
    ⟨⟨l',20,0,2097152-20⟩,⟨20,Nat.le_refl _,by decide,rfl,hb0,rfl⟩,rfl,⟨⟨rfl,rfl,trivial⟩,rfl,⟨rfl,trivial,trivial⟩,rfl,trivial⟩,⟨rfl,rfl⟩,trivial⟩,fun y hy=> ?_⟩
   obtain ⟨s,hs1,hs2,hyi,hbk,hyr⟩:=hy
   have hyl:=hbk.len
   refine ⟨fun k2=> ?_,fun k2=> ?_⟩
   · have k2:=of_decide_eq_true k2
     have ws:wr .i64 (2*y.i)=((2*s:Nat):Int):=by rw [wrk (by omega) (by omega)];omega
     have ws2:wr .i64 (y.i*2)=((2*s:Nat):Int):=by rw [wrk (by omega) (by omega)];omega
     rw [ws,ws2]
     refine ⟨fun z=>∃m1 m2 M1 M2,l=m1++m2/\z.L=M1++M2/\M1.length=m1.length/\z.i=m1.length/\z.j=m1.length+2*s/\z.r=m2.length/\Blk20 s m2 M2/\∀l' L',Blk20 (2*s) l' L'->Blk20 (2*s) (m1++l') (M1++L'),
      ⟨⟨y.L,0,((2*s:Nat):Int),l.length⟩,⟨[],l,[],y.L,rfl,rfl,rfl,rfl,by show ((2*s:Nat):Int)=_;simp,rfl,hbk,fun _ _ h=>h⟩,rfl,⟨⟨rfl,rfl,trivial⟩,rfl,⟨rfl,trivial,trivial⟩,rfl,rfl,rfl,trivial⟩,⟨rfl,rfl⟩,trivial⟩,fun z hz=> ?_⟩
     obtain ⟨m1,m2,M1,M2,hm,hzL,hMl,hzi,hzj,hzr,hbm,hcm⟩:=hz
     have hmlen:m1.length+m2.length=l.length:=by rw [hm,List.length_append]
     have hM2:=hbm.len
     have hzl:z.L.length=l.length:=by rw [hzL,List.length_append];omega
     have wis:wr .i64 (z.i+y.i)=((m1.length+s:Nat):Int):=by rw [wrk (by omega) (by omega)];omega
     rw [wis]
     have mg:∀(a b q Q:List Prt) (j:Int),m2=a++b++q->a.length=s->M2=srtU klP ixP a++srtU klP ixP b++Q->0<b.length->j=m1.length+s+b.length->
      Zkd (1000001:Nat) z.L (z.i,((m1.length+s:Nat):Int),j,(),())/\smF z.L (z.i,((m1.length+s:Nat):Int),j,(),())=M1++srtU klP ixP (a++b)++Q:=by
      intro a b q Q j e1 e2 e3 e4 e5
      have hpw:(a++b).Pairwise fun (p q:Prt)=>p.idx<q.idx:=by
       rw [hm,e1,<-List.append_assoc] at hl
       exact Zp4 hl
      have eL:z.L=M1++srtU klP ixP a++srtU klP ixP b++Q:=by rw [hzL,e3];simp
      have la:=Y3 (kl:=klP) (ix:=ixP) a
      have lb:=Y3 (kl:=klP) (ix:=ixP) b
      have lm2:a.length+b.length+q.length=m2.length:=by rw [e1];simp;omega
      rw [eL]
      refine ⟨Zeh (by omega) (by omega) (by omega) (by omega) (by omega) (by rw [<-eL];omega) (by omega) (Zri hpw),?_⟩
      rw [Zeg (by omega) (by omega),Zrj hpw]
     refine ⟨fun k3=> ?_,fun k3=>⟨fun k4=> ?_,fun k4=> ?_⟩⟩
     · have k3:=of_decide_eq_true k3
       obtain ⟨a,m3,M3,ea,la,eM,hb3⟩:=hbm.split (by omega)
       have lm3:a.length+m3.length=m2.length:=by rw [ea,List.length_append]
       obtain ⟨b,m4,M4,eb,lb,eM4,hb4⟩:=hb3.split (by omega)
       have lm4:b.length+m4.length=m3.length:=by rw [eb,List.length_append]
       obtain ⟨p1,p2⟩:=mg a b m4 M4 z.j (by rw [ea,eb];simp) la (by rw [eM,eM4];simp) (by omega) (by omega)
       have wj:wr .i64 (z.j+((2*s:Nat):Int))=z.j+((2*s:Nat):Int):=wrk (by omega) (by omega)
       have hA:(M1++srtU klP ixP (a++b)).length=(m1++(a++b)).length:=by rw [List.length_append,List.length_append,Y3];omega
       refine ⟨⟨hzl.symm,p1⟩,fun l' hl'=>⟨⟨l',z.j,z.j+((2*s:Nat):Int),m4.length⟩,⟨m1++(a++b),m4,M1++srtU klP ixP (a++b),M4,by rw [hm,ea,eb];simp,hl'.trans p2,hA,?_,?_,rfl,hb4,fun l'' L'' hb=> ?_⟩,by show m4.length+1<=z.r;omega,rfl,⟨⟨rfl,rfl,trivial⟩,rfl,⟨rfl,trivial,trivial⟩,rfl,rfl,wj,trivial⟩,⟨rfl,rfl⟩,trivial⟩⟩
       · show z.j=_;rw [List.length_append,List.length_append];omega
       · show z.j+((2*s:Nat):Int)=_;rw [List.length_append,List.length_append];omega
       · rw [List.append_assoc m1,List.append_assoc M1]
         exact hcm _ _ (.more (by rw [List.length_append];omega) hb)
     · have k3:=of_decide_eq_false k3
       have k4:=of_decide_eq_true k4
       obtain ⟨a,b,M3,ea,la,eM,hb3⟩:=hbm.split (by omega)
       have lm3:a.length+b.length=m2.length:=by rw [ea,List.length_append]
       have hM3:=hb3.whole (by omega)
       obtain ⟨p1,p2⟩:=mg a b [] [] (l.length:Int) (by rw [ea];simp) la (by rw [eM,hM3];simp) (by omega) (by omega)
       refine ⟨⟨hzl.symm,p1⟩,fun l' hl'=>⟨⟨l',((2*s:Nat):Int),0,2097152-2*s⟩,⟨2*s,by omega,by omega,rfl,?_,rfl⟩,by show 2097152-2*s+1<=y.r;omega,rfl,⟨⟨rfl,rfl,trivial⟩,rfl,⟨rfl,trivial,trivial⟩,rfl,trivial⟩,⟨rfl,rfl⟩,trivial⟩⟩
       show Blk20 (2*s) l l'
       rw [hl'.trans p2,List.append_nil,hm,ea]
       exact hcm _ _ (.one (by rw [List.length_append];omega))
     · have k3:=of_decide_eq_false k3
       have k4:=of_decide_eq_false k4
       refine ⟨⟨z.L,((2*s:Nat):Int),0,2097152-2*s⟩,⟨2*s,by omega,by omega,rfl,?_,rfl⟩,by show 2097152-2*s+1<=y.r;omega,rfl,⟨⟨rfl,rfl,trivial⟩,rfl,⟨rfl,trivial,trivial⟩,rfl,trivial⟩,⟨rfl,rfl⟩,trivial⟩
       show Blk20 (2*s) l z.L
       rw [hzL,hm,hbm.whole (by omega)]
       exact hcm _ _ (.one (by omega))
   · have k2:=of_decide_eq_false k2
     exact ⟨hbk.whole (by omega),rfl⟩
end
section
open Go Go.RowKit
def dSt:DcL E (Int×Unit×Unit):= .cons dN (.cons dCmp .nil)
def Ztw (l:List Prt) (x:Int×Unit×Unit):Prop:=x.1=l.length/\l.length<=1000000/\l.Pairwise fun (p q:Prt)=>p.idx<q.idx
def Sst:Sum thy:=Zgz E Th.parts dSt Ztw fun l _=>srtU klP ixP l
theorem Zsf:SumOk E 46 Sst:=W0 E_ok (Zw (f:=46) rfl) fun x l h=>by
 obtain ⟨n,u1,u2⟩:=x
 obtain ⟨rfl,h2,h3⟩:n=l.length/\l.length<=1000000/\l.Pairwise fun (p q:Prt)=>p.idx<q.idx:=h
 exact Ztc l h2 h3
theorem Zlb (t:Int) (v:Int):Yf E F9 (vc E F9 400) 26 [.int false .i64 t] hp0 0 (fun r=>ret E (patch hp0 0 r) r.v (.int false .u64 v))=(
(decide (t<(0:Int))=true->wr IntKind.u64 ((0:Int)-wr IntKind.u64 t)=v)/\(decide (t<(0:Int))=false->wr IntKind.u64 t=v)):=by kernel_rfl
theorem Znz (t:Int) (h: -9007199254740992<=t/\t<=9007199254740992):PureC E 26 [.int false .i64 t] (.int false .u64 (t.natAbs:Int)):=by
 refine Zg E_ok (Zm E_ok Zfa 400) ?_
 rw [Zlb]
 refine ⟨fun k=> ?_,fun k=> ?_⟩
 · have k:=of_decide_eq_true k
   rw [wu64,wu64];omega
 · have k:=of_decide_eq_false k
   rw [wu64];omega
def Zsg:Sum thy:=Zci (dL1 dN) (fun x=> -9007199254740992<=x.1/\x.1<=9007199254740992) (fun x=>x.1.natAbs) fun (y:Nat)=> .int false .u64 (y:Int)
theorem Zn0:SumOk E 26 Zsg:=Xm E_ok (Zw (f:=26) rfl) fun x h=>Znz x.1 h
structure ShX where
 a:Int
 b:Int
 k:Nat
 r:Nat
 L:List Prt
 O:List Int
def Ash1:Fr thy->Hp thy->Nat->Ann thy:=fun T h i=>{X:=ShX,fr:=fun x=> [(0,T 0),(1,T 1),(4,T 4),(5,T 5),(6,.int false .u64 x.a),(23,T 23),(24,T 24),(25,.int false .i64 x.k)],bl:=fun x=> [],src:=fun _=> [],md:= [],ih:=i,M:=i+40,meas:=fun x=>x.r}
def Ash2:Fr thy->Hp thy->Nat->Ann thy:=fun T h i=>{X:=ShX,fr:=fun x=> [(0,T 0),(1,T 1),(4,T 4),(5,T 5),(6,T 6),(9,.int false .i64 x.b),(10,T 10),(54,T 54),(55,T 55),(56,.int false .i64 x.k)],bl:=fun x=> [(bOf (T 10),.rows Th.parts x.L 0)],src:=fun _=> [],md:= [bOf (T 10)],ih:=i,M:=i+40,meas:=fun x=>x.r}
def Ash3:Fr thy->Hp thy->Nat->Ann thy:=fun T h i=>{X:=ShX,fr:=fun x=> [(0,T 0),(4,T 4),(5,T 5),(9,T 9),(10,T 10),(17,T 17),(94,T 94),(95,T 95),(96,.int false .i64 x.k)],bl:=fun x=>blkS h (T 94)++ [(bOf (T 17),.rows Th.ints x.O 0)],src:=fun _=> [],md:= [bOf (T 17)],ih:=i,M:=i+40,meas:=fun x=>x.r}
def Fsh:Fns thy:=addL (addL (addL (addS (addS F9c 26 Zsg) 46 Sst) 7 5 Ash1 E) 7 18 Ash2 E) 7 28 Ash3 E
theorem Zsh:FnsOk E Fsh:=Zp E_ok (Zp E_ok (Zp E_ok (Zx (Zx Zc2 Zn0) Zsf) _ _ _) _ _ _) _ _ _
abbrev qCE3 (a0:List Int):=(↑(List.length a0):Int)
abbrev qCE4:=(0:Nat)
abbrev qCE1 (a0:List Int):=(qCE4=qCE4/\Int.toNat (qCE3 a0)=Int.toNat (qCE3 a0)/\Int.toNat (qCE3 a0)=Int.toNat (qCE3 a0))
abbrev qCE6 (a0:List Int):=(↑(Int.toNat (qCE3 a0)):Int)
abbrev qCE5 (a0:ShX):=(↑(ShX.k a0):Int)
abbrev qCEa:=(1:Int)
abbrev qCE7:=(0:Int)
abbrev qCE2 (a0:Int) (b0:ShX) (c0:List Int) (d0:ShX) (e0:ShX):=(a0=a0/\Value.slice none qCE4 qCE4=Value.slice none qCE4 qCE4/\qCE7=qCE7/\ShX.b b0=ShX.b b0/\(qCE1 c0)/\(qCE1 c0)/\(qCE1 c0)/\(qCE6 c0)=(qCE6 c0)/\wr IntKind.i64 ((qCE5 d0)+qCEa)=(qCE5 e0)/\True)
abbrev qCE8 (a0:List Int):=(a0=a0/\(false=true->false=true))
abbrev qCEe:=(-9007199254740992:Int)
abbrev qCEf:=(9007199254740992:Int)
abbrev qCE9 (a0:Int) (b0:Bool->Prop):=((decide (a0<qCEe)=true->b0 true)/\(decide (a0<qCEe)=false->(decide (a0>qCEf)=true->b0 true)/\(decide (a0>qCEf)=false->b0 false)))
abbrev qCEb (a0:Prt) (b0:List Int):=(qCE7<=Prt.idx a0/\Prt.idx a0+qCEa<=(qCE6 b0))
abbrev qCEc:=(18446744073709551616:Int)
abbrev qCEd:=(18446744073709551616:Nat)
abbrev qCEg:=(1:Nat)
abbrev qCEh (a0:Prt):=(qCE4+Int.toNat (Prt.idx a0))
theorem Zjk (t:Int) (ws:List Int) (z:List Int) (e:Int):Yf E Fsh (vc E Fsh 400) 7 [.int false .i64 t,.psl .ints ws false] hp0 0 (fun r=>ret E (patch hp0 0 r) r.v (.tup [.psl Th.ints z false,.int false .i64 e]))=(
 (decide ((qCE3 ws)>(256:Int))=true->z= []/\(2:Int)=e/\True)/\(decide ((qCE3 ws)>(256:Int))=false->∃(R:ShX->Prop),(∃(x:ShX),R x/\true=true/\(t=t/\(qCE8 ws)/\Value.slice none qCE4 qCE4=Value.slice none qCE4 qCE4/\qCE7=qCE7/\qCE7=ShX.a x/\(qCE8 ws)/\(qCE3 ws)=(qCE3 ws)/\qCE7=(qCE5 x)/\True)/\True)/\∀(x:ShX),R x->(decide ((qCE5 x)<(qCE3 ws))=true->qCE7<=(qCE5 x)/\(qCE5 x)+qCEa<=(qCE3 ws)/\∀(x_1:Int),ws[Int.toNat (qCE5 x)]? =some x_1->(decide (x_1<qCE7)=true->z= []/\qCEa=e/\True)/\(decide (x_1<qCE7)=false->∃(Q:Bool->Prop),(qCE9 x_1 Q)/\(Q true->z= []/\qCEa=e/\True)/\(Q false->∃(x_2:ShX),R x_2/\x_2.4+qCEg<=x.4/\true=true/\(t=t/\(qCE8 ws)/\Value.slice none qCE4 qCE4=Value.slice none qCE4 qCE4/\qCE7=qCE7/\wr IntKind.u64 (ShX.a x+wr IntKind.u64 x_1)=ShX.a x_2/\(qCE8 ws)/\(qCE3 ws)=(qCE3 ws)/\wr IntKind.i64 ((qCE5 x)+qCEa)=(qCE5 x_2)/\True)/\True)))/\(decide ((qCE5 x)<(qCE3 ws))=false->((ShX.a x==qCE7)=true->z= []/\qCEa=e/\True)/\((ShX.a x==qCE7)=false->∃(Q:Bool->Prop),(qCE9 t Q)/\(Q true->z= []/\(3:Int)=e/\True)/\(Q false->(qCEe<=t/\t<=qCEf)/\∀(y:Nat),y=Int.natAbs t->qCE7<=(qCE3 ws)/\(qCE3 ws)<=(qCE3 ws)/\(↑(24:Nat):Int)*(qCE3 ws)<=(281474976710656:Int)/\∃(R:ShX->Prop),(∃(x_1:ShX),R x_1/\true=true/\(t=t/\(qCE8 ws)/\Value.slice none qCE4 qCE4=Value.slice none qCE4 qCE4/\qCE7=qCE7/\ShX.a x=ShX.a x/\wr IntKind.i64 (↑y:Int)=ShX.b x_1/\(qCE1 ws)/\(qCE8 ws)/\(qCE3 ws)=(qCE3 ws)/\qCE7=(qCE5 x_1)/\True)/\(List.replicate (Int.toNat (qCE3 ws)) (Prt.mk qCE7 qCE7 qCE7)=ShX.L x_1/\qCE4=qCE4)/\True)/\∀(x_1:ShX),R x_1->(decide ((qCE5 x_1)<(qCE3 ws))=true->qCE7<=(qCE5 x_1)/\(qCE5 x_1)+qCEa<=(qCE3 ws)/\∀(x_2:Int),ws[Int.toNat (qCE5 x_1)]? =some x_2->(qCEe<=t/\t<=qCEf)/\∀(y:Nat),y=Int.natAbs t->((qCE7<=(↑y:Int)/\(↑y:Int)+qCEa<=qCEc)/\qCE7<=wr IntKind.u64 x_2/\wr IntKind.u64 x_2+qCEa<=qCEc)/\∀(y_1:Int×Int),y_1=((↑(Int.toNat (↑y:Int)*Int.toNat (wr IntKind.u64 x_2)/qCEd):Int),(↑(Int.toNat (↑y:Int)*Int.toNat (wr IntKind.u64 x_2)%qCEd):Int))->((qCE7<=Prod.fst y_1/\Prod.fst y_1+qCEa<=ShX.a x)/\(qCE7<=Prod.snd y_1/\Prod.snd y_1+qCEa<=qCEc)/\ShX.a x+qCEa<=qCEc)/\∀(y:Int×Int),y=((↑((Int.toNat (Prod.fst y_1)*qCEd+Int.toNat (Prod.snd y_1))/Int.toNat (ShX.a x)):Int),(↑((Int.toNat (Prod.fst y_1)*qCEd+Int.toNat (Prod.snd y_1))%Int.toNat (ShX.a x)):Int))->(qCE7<=(qCE5 x_1)/\(qCE5 x_1)+qCEa<=(qCE6 ws))/\qCE4<=qCE4+Int.toNat (qCE5 x_1)/\qCE4+Int.toNat (qCE5 x_1)+qCEg<=List.length (ShX.L x_1)/\∀(x_3:Prt),(ShX.L x_1)[qCE4+Int.toNat (qCE5 x_1)]? =some x_3->∃(x_4:ShX),R x_4/\x_4.4+qCEg<=x_1.4/\true=true/\(t=t/\(qCE8 ws)/\Value.slice none qCE4 qCE4=Value.slice none qCE4 qCE4/\qCE7=qCE7/\ShX.a x=ShX.a x/\wr IntKind.i64 (ShX.b x_1-wr IntKind.i64 (Prod.fst y))=ShX.b x_4/\(qCE1 ws)/\(qCE8 ws)/\(qCE3 ws)=(qCE3 ws)/\wr IntKind.i64 ((qCE5 x_1)+qCEa)=(qCE5 x_4)/\True)/\(List.set (ShX.L x_1) (qCE4+Int.toNat (qCE5 x_1)) (Prt.mk (qCE5 x_1) (wr IntKind.i64 (Prod.fst y)) (Prod.snd y))=ShX.L x_4/\qCE4=qCE4)/\True)/\(decide ((qCE5 x_1)<(qCE3 ws))=false->(Int.toNat (qCE3 ws)=List.length (ShX.L x_1)/\(qCE6 ws)=(↑(List.length (ShX.L x_1)):Int)/\List.length (ShX.L x_1)<=(1000000:Nat)/\List.Pairwise (fun (p q:Prt)=>Prt.idx p<Prt.idx q) (ShX.L x_1))/\∀(l':List Prt),l'=srtU klP ixP (ShX.L x_1)->qCE7<=(qCE3 ws)/\(qCE3 ws)<=(qCE3 ws)/\(↑(8:Nat):Int)*(qCE3 ws)<=(281474976710656:Int)/\∃(R:ShX->Prop),(∃(x:ShX),R x/\true=true/\(t=t/\Value.slice none qCE4 qCE4=Value.slice none qCE4 qCE4/\qCE7=qCE7/\ShX.b x_1=ShX.b x_1/\(qCE1 ws)/\(qCE1 ws)/\(qCE1 ws)/\(qCE6 ws)=(qCE6 ws)/\qCE7=(qCE5 x)/\
True)/\(l'=l'/\qCE4=qCE4)/\(List.replicate (Int.toNat (qCE3 ws)) qCE7=ShX.O x/\qCE4=qCE4)/\True)/\∀(x:ShX),R x->(decide ((qCE5 x)<(qCE6 ws))=true->(qCE7<=(qCE5 x)/\(qCE5 x)+qCEa<=(qCE6 ws))/\qCE4+Int.toNat (qCE5 x)+qCEg<=List.length l'/\∀(x_2:Prt),l'[qCE4+Int.toNat (qCE5 x)]? =some x_2->(decide ((qCE5 x)<ShX.b x_1)=true->(decide (t<qCE7)=true->(qCEb x_2 ws)/\qCE4<=qCE4+Int.toNat (Prt.idx x_2)/\qCE4+Int.toNat (Prt.idx x_2)+qCEg<=List.length (ShX.O x)/\∀(x_3:Int),(ShX.O x)[qCE4+Int.toNat (Prt.idx x_2)]? =some x_3->∃(x_4:ShX),R x_4/\x_4.4+qCEg<=x.4/\true=true/\(qCE2 t x_1 ws x x_4)/\(l'=l'/\qCE4=qCE4)/\(List.set (ShX.O x) (qCEh x_2) (wr IntKind.i64 (qCE7-wr IntKind.i64 (Prt.amt x_2+qCEa)))=ShX.O x_4/\qCE4=qCE4)/\True)/\(decide (t<qCE7)=false->(qCEb x_2 ws)/\qCE4<=qCE4+Int.toNat (Prt.idx x_2)/\qCE4+Int.toNat (Prt.idx x_2)+qCEg<=List.length (ShX.O x)/\∀(x_3:Int),(ShX.O x)[qCE4+Int.toNat (Prt.idx x_2)]? =some x_3->∃(x_4:ShX),R x_4/\x_4.4+qCEg<=x.4/\true=true/\(qCE2 t x_1 ws x x_4)/\(l'=l'/\qCE4=qCE4)/\(List.set (ShX.O x) (qCEh x_2) (wr IntKind.i64 (Prt.amt x_2+qCEa))=ShX.O x_4/\qCE4=qCE4)/\True))/\(decide ((qCE5 x)<ShX.b x_1)=false->(decide (t<qCE7)=true->(qCEb x_2 ws)/\qCE4<=qCE4+Int.toNat (Prt.idx x_2)/\qCE4+Int.toNat (Prt.idx x_2)+qCEg<=List.length (ShX.O x)/\∀(x_3:Int),(ShX.O x)[qCE4+Int.toNat (Prt.idx x_2)]? =some x_3->∃(x_4:ShX),R x_4/\x_4.4+qCEg<=x.4/\true=true/\(qCE2 t x_1 ws x x_4)/\(l'=l'/\qCE4=qCE4)/\(List.set (ShX.O x) (qCEh x_2) (wr IntKind.i64 (qCE7-Prt.amt x_2))=ShX.O x_4/\qCE4=qCE4)/\True)/\(decide (t<qCE7)=false->(qCEb x_2 ws)/\qCE4<=qCE4+Int.toNat (Prt.idx x_2)/\qCE4+Int.toNat (Prt.idx x_2)+qCEg<=List.length (ShX.O x)/\∀(x_3:Int),(ShX.O x)[qCE4+Int.toNat (Prt.idx x_2)]? =some x_3->∃(x_4:ShX),R x_4/\x_4.4+qCEg<=x.4/\true=true/\(qCE2 t x_1 ws x x_4)/\(l'=l'/\qCE4=qCE4)/\(List.set (ShX.O x) (qCEh x_2) (Prt.amt x_2)=ShX.O x_4/\qCE4=qCE4)/\True)))/\(decide ((qCE5 x)<(qCE6 ws))=false->(qCE4+Int.toNat (qCE3 ws)<=List.length (ShX.O x)/\List.take (Int.toNat (qCE3 ws)) (ShX.O x)=z)/\qCE7=e/\True))))))):=by kernel_rfl
structure MdX where
 q:Int
 r0:Int
 s:Int
 r:Nat
def Amd:Fr thy->Hp thy->Nat->Ann thy:=fun T h i=>{X:=MdX,fr:=fun x=> [(0,T 0),(1,T 1),(2,T 2),(6,T 6),(7,T 7),(8,.int false .i64 x.q),(9,.int false .i64 x.r0),(10,.int false .i64 x.s)],bl:=fun x=> [],src:=fun _=> [],md:= [],ih:=i,M:=i+40,meas:=fun x=>x.r}
def Fmd:Fns thy:=addL F9 20 4 Amd E
theorem Zsi:FnsOk E Fmd:=Zp E_ok Zfa _ _ _
abbrev qCEi:=(0:Int)
abbrev qCEj (a0:Int) (b0:MdX):=(Int.tmod (Int.fdiv a0 ((2:Int)^min (Int.toNat (MdX.s b0)) (IntKind.bits IntKind.i64))) (2:Int)==(1:Int))
theorem Zgk (a w d:Int) (q m:Int):Yf E Fmd (vc E Fmd 400) 20 [.int false .i64 a,.int false .i64 w,.int false .i64 d] hp0 0 (fun r=>ret E (patch hp0 0 r) r.v (.tup [.int false .i64 q,.int false .i64 m]))=(
 ∃(R:MdX->Prop),(∃(x:MdX),R x/\true=true/\(a=a/\w=w/\d=d/\qCEi=qCEi/\qCEi=qCEi/\qCEi=MdX.q x/\qCEi=MdX.r0 x/\(53:Int)=MdX.s x/\True)/\True)/\∀(x:MdX),R x->(decide (MdX.s x>=qCEi)=true->qCEi<=MdX.s x/\((qCEj a x)=true->(d=qCEi->False)/\(d=qCEi->False)/\∃(x_1:MdX),R x_1/\x_1.4+(1:Nat)<=x.4/\true=true/\(a=a/\w=w/\d=d/\qCEi=qCEi/\qCEi=qCEi/\wr IntKind.i64 (wr IntKind.i64 ((2:Int)*MdX.q x)+wr IntKind.i64 (Int.tdiv (wr IntKind.i64 (wr IntKind.i64 ((2:Int)*MdX.r0 x)+w)) d))=MdX.q x_1/\Int.tmod (wr IntKind.i64 (wr IntKind.i64 ((2:Int)*MdX.r0 x)+w)) d=MdX.r0 x_1/\wr IntKind.i64 (MdX.s x-(1:Int))=MdX.s x_1/\True)/\True)/\((qCEj a x)=false->(d=qCEi->False)/\(d=qCEi->False)/\∃(x_1:MdX),R x_1/\x_1.4+(1:Nat)<=x.4/\true=true/\(a=a/\w=w/\d=d/\qCEi=qCEi/\qCEi=qCEi/\wr IntKind.i64 (wr IntKind.i64 ((2:Int)*MdX.q x)+wr IntKind.i64 (Int.tdiv (wr IntKind.i64 ((2:Int)*MdX.r0 x)) d))=MdX.q x_1/\Int.tmod (wr IntKind.i64 ((2:Int)*MdX.r0 x)) d=MdX.r0 x_1/\wr IntKind.i64 (MdX.s x-(1:Int))=MdX.s x_1/\True)/\True))/\(decide (MdX.s x>=qCEi)=false->MdX.q x=q/\MdX.r0 x=m/\True)):=by kernel_rfl
end
section
open Go Go.RowKit
theorem Zrc {q r d w P h b r1:Int} (hd:1<=d) (hinv:q*d+r=h*w) (hP:P=2*h+b) (hr1:r1=2*r+b*w):(2*q+r1/d)*d+r1%d=P*w:=by
 have e:=Int.mul_ediv_add_emod r1 d
 rw [Int.add_mul,Int.mul_assoc,Int.mul_comm (r1/d) d,hP,Int.add_mul,Int.mul_assoc,<-hinv]
 generalize q*d=z at*
 generalize b*w=y at*
 generalize d*(r1/d)=v at*
 generalize r1%d=u at*
 omega
theorem md_q {q r d w h:Int} (hd:1<=d) (hr:0<=r) (hw:w<=d) (hh:0<=h) (hinv:q*d+r=h*w):q<=h:=by
 have h1:h*w<=h*d:=Int.mul_le_mul_of_nonneg_left hw hh
 exact Int.le_of_mul_le_mul_right (show q*d<=h*d by omega) (by omega)
theorem Zrd (a w d:Int) (ha:0<=a) (ha2:a<=9007199254740992) (hw:0<=w) (hw2:w<=d) (hd:1<=d) (hd2:d<=2305843009213693952):PureC E 20 [.int false .i64 a,.int false .i64 w,.int false .i64 d] (.tup [.int false .i64 (a*w/d),.int false .i64 (a*w%d)]):=by
 refine Zg E_ok (Zm E_ok Zsi 400) ?_
 rw [Zgk]; delta qCEi qCEj
 refine ⟨fun x=>∃k:Nat,k<=54/\x.s=(k:Int)-1/\x.q*d+x.r0=a/2^k*w/\0<=x.r0/\x.r0<d/\0<=x.q/\x.r=k,⟨⟨0,0,53,54⟩,⟨54,Nat.le_refl _,rfl,?_,Int.le_refl _,by show (0:Int)<d;omega,Int.le_refl _,rfl⟩,rfl,⟨rfl,rfl,rfl,rfl,rfl,rfl,rfl,rfl,trivial⟩,trivial⟩,fun x hx=> ?_⟩
 · show (0:Int)*d+0=a/2^54*w
   rw [show a/2^54=0 by omega]
   simp
 obtain ⟨k,hk,hs,hinv,h0,h1,hq0,hr⟩:=hx
 refine ⟨fun h=> ?_,fun h=> ?_⟩
 · have h:=of_decide_eq_true h
   obtain ⟨j,rfl⟩:∃j,k=j+1:=⟨k-1,by omega⟩
   have hsj:x.s=(j:Int):=by omega
   have hA:a/2^(j+1)=a/2^j/2:=by
    rw [Int.pow_succ,Int.ediv_ediv_of_nonneg (by exact Int.pow_nonneg (by decide))]
   have hP0:0<=a/2^j:=Int.ediv_nonneg ha (Int.pow_nonneg (by decide))
   have hPa:a/2^j<=a:=Int.ediv_le_self _ ha
   have hf:Int.fdiv a ((2:Int)^min (Int.toNat x.s) (IntKind.bits IntKind.i64))=a/2^j:=by
    rw [hsj,Int.toNat_natCast,show min j (IntKind.bits IntKind.i64)=j from Nat.min_eq_left (by show j<=64;omega)]
    exact Int.fdiv_eq_ediv_of_nonneg _ (Int.pow_nonneg (by decide))
   rw [hA] at hinv
   rw [hf]
   generalize hPd:a/2^j=P at*
   have hq:=md_q hd h0 hw2 (by omega) hinv
   have ws:wr .i64 (x.s-1)=x.s-1:=wrk (by omega) (by omega)
   have w2q:wr .i64 (2*x.q)=2*x.q:=wrk (by omega) (by omega)
   have w2r:wr .i64 (2*x.r0)=2*x.r0:=wrk (by omega) (by omega)
   have hm:P.tmod 2=P%2:=Int.tmod_eq_emod_of_nonneg hP0
   rw [ws,w2q,w2r,hm]
   have dn:d=0->False:=by omega
   have st:∀b r1:Int,P=2*(P/2)+b->r1=2*x.r0+b*w->0<=r1->r1<=6917529027641081856->(wr .i64 (2*x.q+wr .i64 (r1.tdiv d))*d+r1.tmod d=P*w/\0<=wr .i64 (2*x.q+wr .i64 (r1.tdiv d)))/\0<=r1.tmod d/\r1.tmod d<d:=by
    intro b r1 e1 e2 e3 e4
    have g1:r1.tdiv d=r1/d:=Int.tdiv_eq_ediv_of_nonneg e3
    have g2:r1.tmod d=r1%d:=Int.tmod_eq_emod_of_nonneg e3
    have g3:0<=r1/d:=Int.ediv_nonneg e3 (by omega)
    have g4:r1/d<=r1:=Int.ediv_le_self _ e3
    rw [g1,g2,wrk (z:=r1/d) (by omega) (by omega),wrk (by omega) (by omega)]
    exact ⟨⟨Zrc hd hinv e1 e2,by omega⟩,Int.emod_nonneg _ (by omega),Int.emod_lt_of_pos _ (by omega)⟩
   refine ⟨by omega,fun hb=>⟨dn,dn,?_⟩,fun hb=>⟨dn,dn,?_⟩⟩
   · have hb:P%2=1:=beq_iff_eq.1 hb
     have w2w:wr .i64 (2*x.r0+w)=2*x.r0+w:=wrk (by omega) (by omega)
     rw [w2w]
     obtain ⟨⟨s1,s2⟩,s3,s4⟩:=st 1 (2*x.r0+w) (by omega) (by omega) (by omega) (by omega)
     exact ⟨⟨_,_,x.s-1,j⟩,⟨j,by omega,by show x.s-1=_;omega,by rw [hPd];exact s1,s3,s4,s2,rfl⟩,by show j+1<=x.r;omega,rfl,⟨rfl,rfl,rfl,rfl,rfl,rfl,rfl,rfl,trivial⟩,trivial⟩
   · have hb:P%2=0:=by
      have:P%2≠1:=beq_eq_false_iff_ne.1 hb
      omega
     obtain ⟨⟨s1,s2⟩,s3,s4⟩:=st 0 (2*x.r0) (by omega) (by omega) (by omega) (by omega)
     exact ⟨⟨_,_,x.s-1,j⟩,⟨j,by omega,by show x.s-1=_;omega,by rw [hPd];exact s1,s3,s4,s2,rfl⟩,by show j+1<=x.r;omega,rfl,⟨rfl,rfl,rfl,rfl,rfl,rfl,rfl,rfl,trivial⟩,trivial⟩
 · have h:=of_decide_eq_false h
   obtain rfl:k=0:=by omega
   rw [Int.pow_zero,Int.ediv_one] at hinv
   have e1:a*w/d=x.q:=by
    rw [<-hinv,Int.add_comm,Int.add_mul_ediv_right _ _ (by omega),Int.ediv_eq_zero_of_lt h0 h1,Int.zero_add]
   have e2:a*w%d=x.r0:=by
    rw [<-hinv,Int.add_comm,Int.add_mul_emod_self_right,Int.emod_eq_of_lt h0 h1]
   exact ⟨e1.symm,e2.symm,trivial⟩
def okW (w:Int):Bool:=decide (0<=w)&&decide (w<=9007199254740992)
def Xa (t:Int) (ws:List Int):List Int×Int:=
 if 256<ws.length then ([],2) else if ws.all okW=false then ([],1) else if ws.sum=0 then ([],1) else if inR t=false then ([],3) else (outP (decide (t<0)) t.natAbs ws,0)
theorem V8:∀{l:List Int},l.all okW=true->0<=l.sum/\l.sum<=9007199254740992*l.length/\∀w∈l,0<=w/\w<=9007199254740992/\w<=l.sum
 | [],_=>⟨by simp,by simp,fun w hw=>by cases hw⟩
 |x::l,h=>by
  rw [List.all_cons,Bool.and_eq_true] at h
  obtain ⟨h1,h2⟩:=h
  obtain ⟨k1,k2,k3⟩:=V8 h2
  have hx:0<=x/\x<=9007199254740992:=by
   unfold okW at h1
   rw [Bool.and_eq_true,decide_eq_true_eq,decide_eq_true_eq] at h1
   exact h1
  rw [List.sum_cons,List.length_cons]
  refine ⟨by omega,by omega,fun w hw=> ?_⟩
  rcases List.mem_cons.1 hw with rfl|hw
  · omega
  · have:=k3 w hw
    omega
theorem V9 {α:Type} {l:List α} {k:Nat} {x:α} (h:l[k]? =some x):l.take (k+1)=l.take k++ [x]:=by
 rw [List.take_add_one,h]
 rfl
theorem Zmi (A S:Int):∀(k:Nat) (l m:List Int),mkP A S k (l++m)=mkP A S k l++mkP A S (k+l.length) m
 |k,[],m=>rfl
 |k,w::r,m=>by
  show _::mkP A S (k+1) (r++m)=_::(mkP A S (k+1) r++_)
  rw [Zmi A S (k+1) r m,List.length_cons,show k+1+r.length=k+(r.length+1) by omega]
theorem Zig (A S:Int):∀(k:Nat) (l:List Int),(mkP A S k l).Pairwise fun (p q:Prt)=>p.idx<q.idx
 |_,[]=>List.Pairwise.nil
 |k,w::r=>by
  refine List.pairwise_cons.2 ⟨fun p hp=> ?_,Zig A S (k+1) r⟩
  obtain ⟨i,v,h1,rfl⟩:=Wd hp
  show (k:Int)<((k+1+i:Nat):Int)
  omega
theorem Zp1 (a b:List Prt):sA (a++b)=sA a+sA b:=by simp [sA]
theorem Zmj {A S:Int} (hA:0<=A) (hS:0<S) {l m:List Int} (hl:∀w∈l,0<=w) (hm:0<=m.sum) (hs:(l++m).sum=S):0<=sA (mkP A S 0 l)/\sA (mkP A S 0 l)<=A:=by
 have e:=Zgi A S 0 l
 have hb:=Zdh (S:=S) (mkP A S 0 l) fun p hp=>by
  obtain ⟨i,w,h1,rfl⟩:=Wd hp
  exact ⟨Int.emod_nonneg _ (by omega),Int.emod_lt_of_pos _ hS⟩
 have hnn:0<=sA (mkP A S 0 l):=by
  have:∀P:List Prt,(∀p∈P,0<=p.amt)->0<=sA P:=by
   intro P
   induction P with
   |nil=>intro _;exact Int.le_refl _
   |cons p P ih=>
    intro h
    rw [Zla]
    have:=h p (by simp)
    have:=ih fun q hq=>h q (by simp [hq])
    omega
  refine this _ fun p hp=> ?_
  obtain ⟨i,w,h1,rfl⟩:=Wd hp
  exact Int.ediv_nonneg (Int.mul_nonneg hA (hl w (List.mem_iff_getElem?.2 ⟨i,h1⟩))) (by omega)
 refine ⟨hnn,?_⟩
 rw [List.sum_append] at hs
 have h1:A*l.sum<=A*S:=Int.mul_le_mul_of_nonneg_left (by omega) hA
 exact Int.le_of_mul_le_mul_right (show sA (mkP A S 0 l)*S<=A*S by omega) hS
end
section
open Go Go.RowKit
theorem Zkc (t:Int) (ws:List Int):PureC E 7 [.int false .i64 t,.psl Th.ints ws false] (.tup [.psl Th.ints (Xa t ws).1 false,.int false .i64 (Xa t ws).2]):=by
 refine Zg E_ok (Zm E_ok Zsh 400) ?_
 rw [Zjk]; delta qCE3 qCE8 qCE4 qCE7 qCE5 qCEa qCE9 qCEg qCEe qCEf qCE1 qCEc qCEd qCE6 qCEb qCE2 qCEh
 refine ⟨fun h=> ?_,fun h=> ?_⟩
 · have h:=of_decide_eq_true h
   unfold Xa
   rw [if_pos (by omega)]
   exact ⟨rfl,rfl,trivial⟩
 have h:=of_decide_eq_false h
 have hlen:ws.length<=256:=by omega
 have e0:Xa t ws=(if ws.all okW=false then ([],1) else if ws.sum=0 then ([],1) else if inR t=false then ([],3) else (outP (decide (t<0)) t.natAbs ws,0)):=by
  unfold Xa
  rw [if_neg (by omega)]
 have bad:∀(k:Nat) (w:Int),ws[k]? =some w->okW w=false-> []=(Xa t ws).1/\(1:Int)=(Xa t ws).2/\True:=by
  intro k w hk hw
  have:ws.all okW=false:=by
   rw [List.all_eq_false]
   exact ⟨w,List.mem_iff_getElem?.2 ⟨k,hk⟩,by rw [hw];decide⟩
  rw [e0,if_pos this]
  exact ⟨rfl,rfl,trivial⟩
 refine ⟨fun x=>x.k<=ws.length/\(ws.take x.k).all okW=true/\x.a=(ws.take x.k).sum/\x.r=ws.length-x.k,⟨⟨0,0,0,ws.length,[],[]⟩,⟨Nat.zero_le _,rfl,rfl,rfl⟩,rfl,⟨rfl,⟨rfl,fun h=>h⟩,rfl,rfl,rfl,⟨rfl,fun h=>h⟩,rfl,rfl,trivial⟩,trivial⟩,fun x hx=> ?_⟩
 obtain ⟨hk,hall,ha,hr⟩:=hx
 obtain ⟨s1,s2,s3⟩:=V8 hall
 have htl:(ws.take x.k).length<=256:=by rw [List.length_take];omega
 refine ⟨fun h1=> ?_,fun h1=>⟨fun h2=> ?_,fun h2=> ?_⟩⟩
 · have h1:=of_decide_eq_true h1
   refine ⟨by omega,by omega,fun w hw=>⟨fun h2=> ?_,fun h2=> ?_⟩⟩
   · have hw:ws[x.k]? =some w:=hw
     have h2:=of_decide_eq_true h2
     have hb:=bad x.k w hw (by unfold okW;simp;omega)
     exact ⟨hb.1.symm,hb.2⟩
   · have hw:ws[x.k]? =some w:=hw
     have h2:=of_decide_eq_false h2
     refine ⟨fun b=>b=decide (9007199254740992<w),⟨fun h3=>absurd (of_decide_eq_true h3) (by omega),fun _=>⟨fun h3=>(decide_eq_true (of_decide_eq_true h3)).symm,fun h3=>(decide_eq_false (of_decide_eq_false h3)).symm⟩⟩,fun q=> ?_,fun q=> ?_⟩
     · have q:=of_decide_eq_true q.symm
       have hb:=bad x.k w hw (by unfold okW;simp;omega)
       exact ⟨hb.1.symm,hb.2⟩
     · have q:=of_decide_eq_false q.symm
       have hsn:=V9 hw
       have w1:wr .u64 w=w:=by rw [wu64];omega
       have w2:wr .u64 (x.a+w)=x.a+w:=by rw [wu64];omega
       have w3:wr .i64 ((x.k:Int)+1)=(x.k:Int)+1:=wrk (by omega) (by omega)
       rw [w1,w2,w3]
       refine ⟨⟨x.a+w,0,x.k+1,ws.length-(x.k+1),[],[]⟩,⟨by show x.k+1<=ws.length;omega,?_,?_,rfl⟩,by show ws.length-(x.k+1)+1<=x.r;omega,rfl,⟨rfl,⟨rfl,fun h=>h⟩,rfl,rfl,rfl,⟨rfl,fun h=>h⟩,rfl,rfl,trivial⟩,trivial⟩
       · show (ws.take (x.k+1)).all okW=true
         rw [hsn,List.all_append,hall,Bool.true_and,List.all_cons,List.all_nil,Bool.and_true]
         unfold okW;simp;omega
       · show x.a+w=(ws.take (x.k+1)).sum
         rw [hsn,List.sum_append,ha];simp
 · have h1:=of_decide_eq_false h1
   have hkl:x.k=ws.length:=by omega
   rw [hkl,List.take_length] at ha hall
   have h2:x.a=0:=beq_iff_eq.1 h2
   rw [e0,if_neg (by rw [hall];decide),if_pos (by omega)]
   exact ⟨rfl,rfl,trivial⟩
 have h1:=of_decide_eq_false h1
 have hkl:x.k=ws.length:=by omega
 rw [hkl,List.take_length] at ha hall s1 s2 s3
 have h2:x.a≠0:=beq_eq_false_iff_ne.1 h2
 have hS:0<ws.sum:=by omega
 have e1:Xa t ws=(if inR t=false then ([],3) else (outP (decide (t<0)) t.natAbs ws,0)):=by
  rw [e0,if_neg (by rw [hall];decide),if_neg (by omega)]
 refine ⟨fun b=>b= !inR t,⟨fun h3=> ?_,fun h3=>⟨fun h4=> ?_,fun h4=> ?_⟩⟩,fun q=> ?_,fun q=> ?_⟩
 · have h3:=of_decide_eq_true h3
   unfold inR;simp;omega
 · have h4:=of_decide_eq_true h4
   unfold inR;simp;omega
 · have h3:=of_decide_eq_false h3
   have h4:=of_decide_eq_false h4
   unfold inR;simp;omega
 · have q:inR t=false:=by simpa using q.symm
   rw [e1,if_pos q]
   exact ⟨rfl,rfl,trivial⟩
 have q:inR t=true:=by simpa using q.symm
 have hin: -9007199254740992<=t/\t<=9007199254740992:=by
  unfold inR at q
  simpa using q
 have e2:Xa t ws=(outP (decide (t<0)) t.natAbs ws,0):=by rw [e1,if_neg (by rw [q];decide)]
 rw [e2]
 obtain ⟨A,hA⟩:∃A:Nat,A=t.natAbs:=⟨_,rfl⟩
 have hA2:A<=9007199254740992:=by omega
 have wA:wr .i64 ((A:Nat):Int)=A:=wrk (by omega) (by omega)
 refine ⟨hin,fun y hy=> ?_⟩
 rw [<-hA] at hy⊢
 rw [hy,wA]
 have hl1:(ws.length:Int).toNat=ws.length:=Int.toNat_natCast _
 rw [hl1,ha]
 refine ⟨by omega,Int.le_refl _,by omega,?_⟩
 refine ⟨fun x=>x.k<=ws.length/\x.L=mkP A ws.sum 0 (ws.take x.k)++List.replicate (ws.length-x.k) (Prt.mk 0 0 0)/\x.b=A-sA (mkP A ws.sum 0 (ws.take x.k))/\x.r=ws.length-x.k,
  ⟨⟨0,A,0,ws.length,List.replicate ws.length (Prt.mk 0 0 0),[]⟩,⟨Nat.zero_le _,by simp [mkP],by simp [mkP,sA],rfl⟩,rfl,⟨rfl,⟨rfl,fun h=>h⟩,rfl,rfl,rfl,rfl,⟨rfl,rfl,rfl⟩,⟨rfl,fun h=>h⟩,rfl,rfl,trivial⟩,⟨rfl,rfl⟩,trivial⟩,fun x2 hx2=> ?_⟩
 obtain ⟨hk2,hL2,hb2,hr2⟩:=hx2
 have hLl:x2.L.length=ws.length:=by rw [hL2,List.length_append,Us,List.length_take,List.length_replicate];omega
 refine ⟨fun h3=> ?_,fun h3=> ?_⟩
 · have h3:=of_decide_eq_true h3
   refine ⟨by omega,by omega,fun w hw=> ?_⟩
   have hw:ws[x2.k]? =some w:=hw
   obtain ⟨v1,v2,v3⟩:=s3 w (List.mem_iff_getElem?.2 ⟨x2.k,hw⟩)
   have w1:wr .u64 w=w:=by rw [wu64];omega
   refine ⟨hin,fun y hy=> ?_⟩
   rw [hy,w1]
   obtain ⟨W,rfl⟩:=Int.eq_ofNat_of_zero_le v1
   obtain ⟨S,hSn⟩:=Int.eq_ofNat_of_zero_le (show 0<=ws.sum by omega)
   rw [hSn]
   rw [hSn] at v3 hS
   have hAW:A*W<=9007199254740992*W:=Nat.mul_le_mul_right _ hA2
   have hWS:W<=S:=by omega
   have hS2:S<=2305843009213693952:=by omega
   refine ⟨⟨⟨by omega,by omega⟩,by omega,by omega⟩,fun y1 hy1=> ?_⟩
   simp only [Int.toNat_natCast] at hy1
   subst hy1
   have hdiv:A*W/18446744073709551616<S:=by
    refine Nat.div_lt_of_lt_mul ?_
    have:9007199254740992*W<=9007199254740992*S:=Nat.mul_le_mul_left _ hWS
    omega
   refine ⟨⟨⟨by show (0:Int)<=((A*W/18446744073709551616:Nat):Int);omega,by show ((A*W/18446744073709551616:Nat):Int)+1<=(S:Int);omega⟩,⟨by show (0:Int)<=((A*W%18446744073709551616:Nat):Int);omega,by show ((A*W%18446744073709551616:Nat):Int)+1<=_;omega⟩,by omega⟩,fun y2 hy2=> ?_⟩
   have hy2:y2=(((A*W/S:Nat):Int),((A*W%S:Nat):Int)):=by
    rw [hy2]
    simp only [Int.toNat_natCast]
    rw [Nat.div_add_mod' (A*W) 18446744073709551616]
   have hqA:A*W/S<=A:=by
    refine Nat.div_le_of_le_mul ?_
    rw [Nat.mul_comm S A]
    exact Nat.mul_le_mul_left _ hWS
   obtain ⟨Q,hQ⟩:∃Q,A*W/S=Q:=⟨_,rfl⟩
   obtain ⟨M,hM⟩:∃M,A*W%S=M:=⟨_,rfl⟩
   have hsn:=V9 hw
   have htk:(ws.take x2.k).length=x2.k:=by rw [List.length_take];omega
   have hmk:mkP A S 0 (ws.take (x2.k+1))=mkP A S 0 (ws.take x2.k)++ [⟨(x2.k:Int),(Q:Int),(M:Int)⟩]:=by
    rw [hsn,Zmi,htk,Nat.zero_add,<-hQ,<-hM]
    show _++ [Prt.mk _ _ _]=_
    rw [Int.natCast_ediv,Int.natCast_emod,Int.natCast_mul]
   rw [hQ,hM] at hy2
   rw [hQ] at hqA
   clear hQ hM
   subst hy2
   have w2:wr .i64 (Q:Int)=Q:=wrk (by omega) (by omega)
   rw [hSn] at hL2 hb2
   have hbd:=Zmj (A:=A) (S:=S) (l:=ws.take (x2.k+1)) (m:=ws.drop (x2.k+1)) (by omega) hS (fun v hv=>(s3 v (List.mem_of_mem_take hv)).1) (V8 (List.all_eq_true.2 fun v hv=>List.all_eq_true.1 hall v (List.mem_of_mem_drop hv))).1 (by rw [List.take_append_drop,hSn])
   rw [hmk,Zp1] at hbd
   have hone:sA [(⟨(x2.k:Int),(Q:Int),(M:Int)⟩:Prt)]=(Q:Int):=by simp [sA]
   rw [hone] at hbd
   have hbd0:=Zmj (A:=A) (S:=S) (l:=ws.take x2.k) (m:=ws.drop x2.k) (by omega) hS (fun v hv=>(s3 v (List.mem_of_mem_take hv)).1) (V8 (List.all_eq_true.2 fun v hv=>List.all_eq_true.1 hall v (List.mem_of_mem_drop hv))).1 (by rw [List.take_append_drop,hSn])
   have w3:wr .i64 (x2.b-(Q:Int))=x2.b-(Q:Int):=wrk (by omega) (by omega)
   have w4:wr .i64 ((x2.k:Int)+1)=(x2.k:Int)+1:=wrk (by omega) (by omega)
   simp only [w2,w3,w4,Int.toNat_natCast,Nat.zero_add]
   refine ⟨⟨by omega,by omega⟩,by omega,by omega,fun x3 _=>⟨⟨0,x2.b-(Q:Int),x2.k+1,ws.length-(x2.k+1),_,[]⟩,⟨by show x2.k+1<=ws.length;omega,?_,?_,rfl⟩,by show ws.length-(x2.k+1)+1<=x2.r;omega,trivial,⟨trivial,⟨trivial,fun h=>h⟩,trivial,trivial,trivial,rfl,⟨trivial,trivial,trivial⟩,⟨trivial,fun h=>h⟩,trivial,rfl,trivial⟩,⟨rfl,trivial⟩,trivial⟩⟩
   · show x2.L.set x2.k _=mkP A S 0 (ws.take (x2.k+1))++List.replicate (ws.length-(x2.k+1)) _
     rw [hmk,hL2]
     have hlm:(mkP A S 0 (ws.take x2.k)).length=x2.k:=by rw [Us,htk]
     rw [show ws.length-x2.k=(ws.length-(x2.k+1))+1 by omega,List.replicate_succ,List.set_append_right _ _ (by omega),hlm,Nat.sub_self,List.set_cons_zero]
     simp
   · show x2.b-_=(A:Int)-sA (mkP A S 0 (ws.take (x2.k+1)))
     rw [hmk,Zp1,hone]
     omega
 · have h3:=of_decide_eq_false h3
   have hk3:x2.k=ws.length:=by omega
   rw [hk3,List.take_length] at hL2 hb2
   rw [Nat.sub_self,List.replicate_zero,List.append_nil] at hL2
   refine ⟨⟨hLl.symm,by omega,by omega,by rw [hL2];exact Zig _ _ _ _⟩,fun l' hl'=>⟨by omega,Int.le_refl _,by omega,?_⟩⟩
   have hl':l'=srtU Prt.rest Prt.idx (mkP A ws.sum 0 ws):=by rw [hl',hL2]
   have hll:l'.length=ws.length:=by rw [hl',Y3,Us]
   have hsA:=Zcs (A:=A) (ws:=ws) (by omega) hS
   have hmem:∀p∈l',∃(i:Nat) (w:Int),ws[i]? =some w/\p=⟨(i:Int),A*w/ws.sum,A*w%ws.sum⟩:=by
    intro p hp
    rw [hl'] at hp
    obtain ⟨i,w,k1,k2⟩:=Wd ((Zo (mkP A ws.sum 0 ws)).mem_iff.1 hp)
    exact ⟨i,w,k1,by rw [k2,Nat.zero_add]⟩
   refine ⟨fun x=>x.k<=ws.length/\x.O.length=ws.length/\putL (decide (t<0)) x2.b x.k (l'.drop x.k) x.O=outP (decide (t<0)) A ws/\x.r=ws.length-x.k,
    ⟨⟨0,0,0,ws.length,[],List.replicate ws.length 0⟩,⟨Nat.zero_le _,List.length_replicate,?_,rfl⟩,rfl,⟨rfl,rfl,rfl,rfl,⟨rfl,rfl,rfl⟩,⟨rfl,rfl,rfl⟩,⟨rfl,rfl,rfl⟩,rfl,rfl,trivial⟩,⟨rfl,rfl⟩,⟨rfl,rfl⟩,trivial⟩,fun x4 hx4=> ?_⟩
   · show putL (decide (t<0)) x2.b 0 l' (List.replicate ws.length 0)=outP (decide (t<0)) A ws
     unfold outP
     rw [hb2,hl']
   obtain ⟨hk4,hO4,hp4,hr4⟩:=hx4
   have w4:wr .i64 ((x4.k:Int)+1)=(x4.k:Int)+1:=wrk (by omega) (by omega)
   refine ⟨fun h5=> ?_,fun h5=> ?_⟩
   · have h5:=of_decide_eq_true h5
     refine ⟨⟨by omega,by omega⟩,by rw [Int.toNat_natCast];omega,fun p hp=> ?_⟩
     rw [Int.toNat_natCast,Nat.zero_add] at hp
     obtain ⟨i,w,hi,hpe⟩:=hmem p (List.mem_iff_getElem?.2 ⟨x4.k,hp⟩)
     have hil:i<ws.length:=(gA9.1 hi).1
     obtain ⟨v1,v2,v3⟩:=s3 w (List.mem_iff_getElem?.2 ⟨i,hi⟩)
     have hidx:p.idx=(i:Int):=by rw [hpe]
     have hamt:0<=p.amt/\p.amt<=A:=by
      rw [hpe]
      refine ⟨Int.ediv_nonneg (Int.mul_nonneg (by omega) v1) (by omega),?_⟩
      refine Int.ediv_le_of_le_mul hS ?_
      exact Int.mul_le_mul_of_nonneg_left v3 (by omega)
     have hstep:∀v:Int,v=valP (decide (t<0)) x2.b x4.k p->putL (decide (t<0)) x2.b (x4.k+1) (l'.drop (x4.k+1)) (x4.O.set i v)=outP (decide (t<0)) A ws:=by
      intro v hv
      rw [<-hp4]
      obtain ⟨hlt,hge⟩:=gA9.1 hp
      rw [List.drop_eq_getElem_cons hlt,hge,hv]
      show _=putL _ _ (x4.k+1) _ (x4.O.set p.idx.toNat _)
      rw [hidx,Int.toNat_natCast]
     have done:∀v:Int,v=valP (decide (t<0)) x2.b x4.k p->((0<=p.idx/\p.idx+1<=(ws.length:Int))/\(0:Nat)<=0+p.idx.toNat/\0+p.idx.toNat+1<=x4.O.length/\∀x3:Int,x4.O[0+p.idx.toNat]? =some x3->∃x5:ShX,(x5.k<=ws.length/\x5.O.length=ws.length/\putL (decide (t<0)) x2.b x5.k (l'.drop x5.k) x5.O=outP (decide (t<0)) A ws/\x5.r=ws.length-x5.k)/\x5.r+1<=x4.r/\true=true/\
      (t=t/\Value.slice none 0 0=Value.slice none 0 0/\(0:Int)=0/\x2.b=x2.b/\((0:Nat)=0/\ws.length=ws.length/\ws.length=ws.length)/\((0:Nat)=0/\ws.length=ws.length/\ws.length=ws.length)/\((0:Nat)=0/\ws.length=ws.length/\ws.length=ws.length)/\(ws.length:Int)=ws.length/\wr .i64 ((x4.k:Int)+1)=(x5.k:Int)/\True)/\(l'=l'/\(0:Nat)=0)/\(x4.O.set (0+p.idx.toNat) v=x5.O/\(0:Nat)=0)/\True):=by
      intro v hv
      rw [hidx,Int.toNat_natCast,Nat.zero_add]
      refine ⟨⟨by omega,by omega⟩,by omega,by omega,fun _ _=>⟨⟨0,0,x4.k+1,ws.length-(x4.k+1),[],x4.O.set i v⟩,⟨by show x4.k+1<=_;omega,by show (x4.O.set i v).length=_;rw [List.length_set];exact hO4,hstep v hv,rfl⟩,by show ws.length-(x4.k+1)+1<=x4.r;omega,rfl,⟨rfl,rfl,rfl,rfl,⟨rfl,rfl,rfl⟩,⟨rfl,rfl,rfl⟩,⟨rfl,rfl,rfl⟩,rfl,w4,trivial⟩,⟨rfl,rfl⟩,⟨rfl,rfl⟩,trivial⟩⟩
     have w5:wr .i64 (p.amt+1)=p.amt+1:=wrk (by omega) (by omega)
     have w6:wr .i64 (0-(p.amt+1))= -(p.amt+1):=by rw [wrk (by omega) (by omega)];omega
     have w7:wr .i64 (0-p.amt)= -p.amt:=by rw [wrk (by omega) (by omega)];omega
     rw [w5,w6,w7]
     refine ⟨fun h6=>⟨fun h7=> ?_,fun h7=> ?_⟩,fun h6=>⟨fun h7=> ?_,fun h7=> ?_⟩⟩
     · exact done _ (by unfold valP;rw [if_pos h7,if_pos (of_decide_eq_true h6)])
     · exact done _ (by unfold valP;rw [if_neg (by rw [h7];decide),if_pos (of_decide_eq_true h6)])
     · exact done _ (by unfold valP;rw [if_pos h7,if_neg (of_decide_eq_false h6)])
     · exact done _ (by unfold valP;rw [if_neg (by rw [h7];decide),if_neg (of_decide_eq_false h6)])
   · have h5:=of_decide_eq_false h5
     have hk5:x4.k=ws.length:=by omega
     rw [hk5,<-hll,List.drop_length] at hp4
     have hp4:x4.O=outP (decide (t<0)) A ws:=hp4
     refine ⟨⟨by omega,?_⟩,rfl,trivial⟩
     rw [List.take_of_length_le (by omega)]
     exact hp4
def SshM:Sum thy:=Zjw E gthI 4 (dL2 dN Zo0) (fun _=>True) (fun x=>Xa x.1 x.2.1) fun y=> .tup [.psl Th.ints y.1 false,.int false .i64 y.2]
end
section
open Go Go.RowKit
theorem Zqt:SumOk E 7 SshM:=Zar E_ok (Zw (f:=7) rfl) fun x _=>Zkc x.1 x.2.1
def SmdM:Sum thy:=Zci (dL3 dN dN dN) (fun x=>0<=x.1/\x.1<=9007199254740992/\0<=x.2.1/\x.2.1<=x.2.2.1/\1<=x.2.2.1/\x.2.2.1<=2305843009213693952) (fun x=>(x.1*x.2.1/x.2.2.1,x.1*x.2.1%x.2.2.1)) Zhv
theorem Zqu:SumOk E 20 SmdM:=Xm E_ok (Zw (f:=20) rfl) fun x h=>Zrd x.1 x.2.1 x.2.2.1 h.1 h.2.1 h.2.2.1 h.2.2.2.1 h.2.2.2.2.1 h.2.2.2.2.2
theorem Zln (t:Int) (v:Int):Yf E F9 (vc E F9 400) 21 [.int false .i64 t] hp0 0 (fun r=>ret E (patch hp0 0 r) r.v (.int false .i64 v))=(
(decide (t<(0:Int))=true->wr IntKind.i64 ((0:Int)-t)=v)/\(decide (t<(0:Int))=false->t=v)):=by kernel_rfl
theorem Zlo (t:Int) (h: -9007199254740993<=t/\t<=9007199254740993):PureC E 21 [.int false .i64 t] (.int false .i64 (t.natAbs:Int)):=by
 refine Zg E_ok (Zm E_ok Zfa 400) ?_
 rw [Zln]
 refine ⟨fun k=> ?_,fun k=> ?_⟩
 · have k:=of_decide_eq_true k
   rw [wrk (by omega) (by omega)];omega
 · have k:=of_decide_eq_false k
   omega
def Zpx:Sum thy:=Zci (dL1 dN) (fun x=> -9007199254740993<=x.1/\x.1<=9007199254740993) (fun x=>x.1.natAbs) fun (y:Nat)=> .int false .i64 (y:Int)
theorem Zlp:SumOk E 21 Zpx:=Xm E_ok (Zw (f:=21) rfl) fun x h=>Zlo x.1 h
structure WeX where
 f:Bool
 k:Nat
 r:Nat
def Awe:Fr thy->Hp thy->Nat->Ann thy:=fun T h i=>{X:=WeX,fr:=fun x=> [(0,T 0),(2,T 2),(3,.bool false x.f),(4,.int false .i64 x.k)],bl:=fun x=> [],src:=fun _=> [],md:= [],ih:=i,M:=i+40,meas:=fun x=>x.r}
def Fwe:Fns thy:=addL F9 17 5 Awe E
theorem Zsk:FnsOk E Fwe:=Zp E_ok Zfa _ _ _
abbrev qCH1 (a0:WeX):=(↑(WeX.k a0):Int)
abbrev qCH2:=(0:Int)
abbrev qCH3:=(false=true->false=true)
abbrev qCH4 (a0:List Int):=(↑(List.length a0):Int)
abbrev qCH5 (a0:List Int) (b0:WeX) (c0:WeX):=((a0=a0/\qCH3)/\qCH2=qCH2/\true=WeX.f b0/\wr IntKind.i64 ((qCH1 c0)+(1:Int))=(qCH1 b0)/\True)
theorem Ze6 (ws:List Int) (e:Int):Yf E Fwe (vc E Fwe 400) 17 [.psl .ints ws false] hp0 0 (fun r=>ret E (patch hp0 0 r) r.v (.int false .i64 e))=(
 (decide ((qCH4 ws)>(256:Int))=true->(2:Int)=e)/\(decide ((qCH4 ws)>(256:Int))=false->∃(R:WeX->Prop),(∃(x:WeX),R x/\true=true/\((ws=ws/\qCH3)/\qCH2=qCH2/\false=WeX.f x/\qCH2=(qCH1 x)/\True)/\True)/\∀(x:WeX),R x->(decide ((qCH1 x)<(qCH4 ws))=true->∃(Q:Bool->Prop),(qCH2<=(qCH1 x)/\(qCH1 x)+(1:Int)<=(qCH4 ws)/\∀(x_1:Int),ws[Int.toNat (qCH1 x)]? =some x_1->(decide (x_1<qCH2)=true->Q true)/\(decide (x_1<qCH2)=false->qCH2<=(qCH1 x)/\(qCH1 x)+(1:Int)<=(qCH4 ws)/\∀(x_2:Int),ws[Int.toNat (qCH1 x)]? =some x_2->(decide (x_2>(9007199254740992:Int))=true->Q true)/\(decide (x_2>(9007199254740992:Int))=false->Q false)))/\(Q true->(1:Int)=e)/\(Q false->(WeX.f x=true->∃(x_1:WeX),R x_1/\x_1.3+(1:Nat)<=x.3/\true=true/\(qCH5 ws x_1 x)/\True)/\(WeX.f x=false->qCH2<=(qCH1 x)/\(qCH1 x)+(1:Int)<=(qCH4 ws)/\∀(x_1:Int),ws[Int.toNat (qCH1 x)]? =some x_1->(decide (x_1>qCH2)=true->∃(x_2:WeX),R x_2/\x_2.3+(1:Nat)<=x.3/\true=true/\(qCH5 ws x_2 x)/\True)/\(decide (x_1>qCH2)=false->∃(x_2:WeX),R x_2/\x_2.3+(1:Nat)<=x.3/\true=true/\((ws=ws/\qCH3)/\qCH2=qCH2/\false=WeX.f x_2/\wr IntKind.i64 ((qCH1 x)+(1:Int))=(qCH1 x_2)/\True)/\True))))/\(decide ((qCH1 x)<(qCH4 ws))=false->((!WeX.f x)=true->(1:Int)=e)/\((!WeX.f x)=false->qCH2=e)))):=by kernel_rfl
def Ato:Fr thy->Hp thy->Nat->Ann thy:=fun T h i=>{X:=ShX,fr:=fun x=> [(0,T 0),(2,T 2),(3,.int false .i64 x.a),(4,.int false .i64 x.k)],bl:=fun x=> [],src:=fun _=> [],md:= [],ih:=i,M:=i+40,meas:=fun x=>x.r}
def Fto:Fns thy:=addL F9 19 3 Ato E
theorem Zsl:FnsOk E Fto:=Zp E_ok Zfa _ _ _
theorem Zjv (ws:List Int) (e:Int):Yf E Fto (vc E Fto 400) 19 [.psl .ints ws false] hp0 0 (fun r=>ret E (patch hp0 0 r) r.v (.int false .i64 e))=(
∃(R:ShX->Prop),(∃(x:ShX),R x/\true=true/\((ws=ws/\(false=true->false=true))/\(0:Int)=(0:Int)/\(0:Int)=ShX.a x/\(0:Int)=(↑(ShX.k x):Int)/\True)/\True)/\∀(x:ShX),R x->(decide ((↑(ShX.k x):Int)<(↑(List.length ws):Int))=true->(0:Int)<=(↑(ShX.k x):Int)/\(↑(ShX.k x):Int)+(1:Int)<=(↑(List.length ws):Int)/\∀(x_1:Int),ws[Int.toNat (↑(ShX.k x):Int)]? =some x_1->∃(x_2:ShX),R x_2/\x_2.4+(1:Nat)<=x.4/\true=true/\((ws=ws/\(false=true->false=true))/\(0:Int)=(0:Int)/\wr IntKind.i64 (ShX.a x+x_1)=ShX.a x_2/\wr IntKind.i64 ((↑(ShX.k x):Int)+(1:Int))=(↑(ShX.k x_2):Int)/\True)/\True)/\(decide ((↑(ShX.k x):Int)<(↑(List.length ws):Int))=false->ShX.a x=e)):=by kernel_rfl
def weF (ws:List Int):Int:=if 256<ws.length then 2 else if ws.all okW=false then 1 else if ws.sum=0 then 1 else 0
def SweM:Sum thy:=Zjw E gthI 4 (.cons Zo0 .nil) (fun _=>True) (fun x=>weF x.1) fun y=> .int false .i64 y
def StoM:Sum thy:=Zjw E gthI 4 (.cons Zo0 .nil) (fun x=>x.1.all okW=true/\x.1.length<=256) (fun x=>x.1.sum) fun y=> .int false .i64 y
def Als1:Fr thy->Hp thy->Nat->Ann thy:=fun T h i=>{X:=ShX,fr:=fun x=> [(0,T 0),(1,T 1),(4,T 4),(5,T 5),(9,T 9),(10,.int false .i64 x.a),(11,.int false .i64 x.b),(12,.int false .i64 x.k)],bl:=fun x=> [],src:=fun _=> [],md:= [],ih:=i,M:=i+60,meas:=fun x=>x.r}
def Als2:Fr thy->Hp thy->Nat->Ann thy:=fun T h i=>{X:=ShX,fr:=fun x=> [(0,T 0),(1,T 1),(4,T 4),(5,T 5),(9,T 9),(10,T 10),(11,T 11),(16,.int false .i64 x.k)],bl:=fun x=> [],src:=fun _=> [],md:= [],ih:=i,M:=i+60,meas:=fun x=>x.r}
def Fls0:Fns thy:=addS (addS (addS (addS (addS F9 7 SshM) 20 SmdM) 21 Zpx) 17 SweM) 19 StoM
def Fls:Fns thy:=addL (addL Fls0 4 15 Als1 E) 4 27 Als2 E
abbrev qCH6:=(false=true->false=true)
abbrev qCH7 (a0:ShX):=(↑(ShX.k a0):Int)
abbrev qCH8 (a0:List Int×Int):=(↑(List.length (Prod.fst a0)):Int)
abbrev qCHc (a0:List Int×Int):=(Prod.fst a0=Prod.fst a0/\qCH6)
abbrev qCHe:=(1:Int)
abbrev qCH9 (a0:Int) (b0:List Int) (c0:List Int×Int) (d0:Int) (e0:ShX) (f0:ShX) (g0:ShX):=(a0=a0/\(b0=b0/\qCH6)/\false=false/\(qCHc c0)/\d0=d0/\ShX.a e0=ShX.a e0/\ShX.b e0=ShX.b e0/\wr IntKind.i64 ((qCH7 f0)+qCHe)=(qCH7 g0)/\True)
abbrev qCHa:=(0:Int)
abbrev qCHb (a0:Int×Int) (b0:ShX) (c0:Bool->Prop):=(decide (Prod.snd a0<ShX.a b0)=false->((Prod.snd a0==ShX.a b0)=true->(decide ((qCH7 b0)>ShX.b b0)=true->c0 true)/\(decide ((qCH7 b0)>ShX.b b0)=false->c0 false))/\((Prod.snd a0==ShX.a b0)=false->c0 false))
abbrev qCHd (a0:Int):=((-9007199254740993:Int)<=a0/\a0<=(9007199254740993:Int))
abbrev qCHf (a0:Bool->Prop) (b0:ShX->Prop) (c0:ShX) (d0:Int) (e0:List Int) (f0:List Int×Int) (g0:Int):=(a0 false->∃(x_3:ShX),b0 x_3/\x_3.4+(1:Nat)<=c0.4/\true=true/\(d0=d0/\(e0=e0/\qCH6)/\false=false/\(qCHc f0)/\g0=g0/\ShX.a c0=ShX.a x_3/\ShX.b c0=ShX.b x_3/\wr IntKind.i64 ((qCH7 c0)+qCHe)=(qCH7 x_3)/\True)/\True)
abbrev qCHg (a0:Nat) (b0:Int) (c0:Int):=(qCHa<=(↑a0:Int)/\(↑a0:Int)<=(9007199254740992:Int)/\qCHa<=b0/\b0<=c0/\qCHe<=c0/\c0<=(2305843009213693952:Int))
abbrev qCHh (a0:Bool->Prop) (b0:ShX->Prop) (c0:ShX) (d0:Int) (e0:List Int) (f0:List Int×Int) (g0:Int) (h0:Int×Int):=(a0 true->∃(x_3:ShX),b0 x_3/\x_3.4+(1:Nat)<=c0.4/\true=true/\(d0=d0/\(e0=e0/\qCH6)/\false=false/\(qCHc f0)/\g0=g0/\Prod.snd h0=ShX.a x_3/\(qCH7 c0)=ShX.b x_3/\wr IntKind.i64 ((qCH7 c0)+qCHe)=(qCH7 x_3)/\True)/\True)
abbrev qCHi (a0:Int×Int):=(Prod.fst a0+qCHe)
abbrev qCHj (a0:List Int×Int) (b0:Bool):=((Prod.snd a0 !=qCHa)=true->(((qCH8 a0)==qCHa)=true->true=b0)/\(((qCH8 a0)==qCHa)=false->false=b0))
theorem Zgu (t:Int) (ws:List Int) (b:Bool):Yf E Fls (vc E Fls 400) 4 [.int false .i64 t,.psl .ints ws false] hp0 0 (fun r=>ret E (patch hp0 0 r) r.v (.bool false b))=(
 True/\((!true)=true->false=b)/\((!true)=false->True/\∀(y:List Int×Int),y=Xa t ws->True/\((!inR t)=true->(qCHj y b)/\((Prod.snd y !=qCHa)=false->false=b))/\((!inR t)=false->True/\∀(y_1:Int),y_1=weF ws->((y_1 !=qCHa)=true->(qCHj y b)/\((Prod.snd y !=qCHa)=false->false=b))/\((y_1 !=qCHa)=false->∃(Q:Bool->Prop),(((Prod.snd y !=qCHa)=true->Q true)/\((Prod.snd y !=qCHa)=false->(((qCH8 y) !=(↑(List.length ws):Int))=true->Q true)/\(((qCH8 y) !=(↑(List.length ws):Int))=false->Q false)))/\(Q true->false=b)/\(Q false->List.length (Prod.fst y)<=(9223372036854775807:Nat)/\∀(y_2:Int×Int),y_2=totF (Prod.fst y)->∃(Q:Bool->Prop),(((Prod.snd y_2 !=qCHa)=true->Q true)/\((Prod.snd y_2 !=qCHa)=false->((Prod.fst y_2 !=t)=true->Q true)/\((Prod.fst y_2 !=t)=false->Q false)))/\(Q true->false=b)/\(Q false->(List.all ws okW=true/\List.length ws<=(256:Nat))/\∀(y_3:Int),y_3=List.sum ws->∃(R:ShX->Prop),(∃(x:ShX),R x/\true=true/\(t=t/\(ws=ws/\qCH6)/\false=false/\(qCHc y)/\y_3=y_3/\y_3=ShX.a x/\qCHa=ShX.b x/\qCHa=(qCH7 x)/\True)/\True)/\∀(x:ShX),R x->(decide ((qCH7 x)<(qCH8 y))=true->(qCHd t)/\∀(y_4:Nat),y_4=Int.natAbs t->qCHa<=(qCH7 x)/\(qCH7 x)+qCHe<=(↑(List.length ws):Int)/\∀(x_1:Int),ws[Int.toNat (qCH7 x)]? =some x_1->(qCHg y_4 x_1 y_3)/\∀(y_5:Int×Int),y_5=((↑y_4:Int)*x_1/y_3,(↑y_4:Int)*x_1%y_3)->qCHa<=(qCH7 x)/\(qCH7 x)+qCHe<=(qCH8 y)/\∀(x_2:Int),(Prod.fst y)[Int.toNat (qCH7 x)]? =some x_2->(decide (t<qCHa)=true->∃(Q:Bool->Prop),(((wr IntKind.i64 (qCHa-x_2) !=Prod.fst y_5)=true->((wr IntKind.i64 (qCHa-x_2) !=wr IntKind.i64 (qCHi y_5))=true->Q true)/\((wr IntKind.i64 (qCHa-x_2) !=wr IntKind.i64 (qCHi y_5))=false->Q false))/\((wr IntKind.i64 (qCHa-x_2) !=Prod.fst y_5)=false->Q false))/\(Q true->false=b)/\(Q false->∃(Q:Bool->Prop),(((wr IntKind.i64 (qCHa-x_2)==wr IntKind.i64 (qCHi y_5))=true->(decide (Prod.snd y_5<ShX.a x)=true->Q true)/\(qCHb y_5 x Q))/\((wr IntKind.i64 (qCHa-x_2)==wr IntKind.i64 (qCHi y_5))=false->Q false))/\(qCHh Q R x t ws y y_3 y_5)/\(qCHf Q R x t ws y y_3)))/\(decide (t<qCHa)=false->∃(Q:Bool->Prop),(((x_2 !=Prod.fst y_5)=true->((x_2 !=wr IntKind.i64 (qCHi y_5))=true->Q true)/\((x_2 !=wr IntKind.i64 (qCHi y_5))=false->Q false))/\((x_2 !=Prod.fst y_5)=false->Q false))/\(Q true->false=b)/\(Q false->∃(Q:Bool->Prop),(((x_2==wr IntKind.i64 (qCHi y_5))=true->(decide (Prod.snd y_5<ShX.a x)=true->Q true)/\(qCHb y_5 x Q))/\((x_2==wr IntKind.i64 (qCHi y_5))=false->Q false))/\(qCHh Q R x t ws y y_3 y_5)/\(qCHf Q R x t ws y y_3))))/\(decide ((qCH7 x)<(qCH8 y))=false->∃(R:ShX->Prop),(∃(x_1:ShX),R x_1/\true=true/\(t=t/\(ws=ws/\qCH6)/\false=false/\(qCHc y)/\y_3=y_3/\ShX.a x=ShX.a x/\ShX.b x=ShX.b x/\qCHa=(qCH7 x_1)/\True)/\True)/\∀(x_1:ShX),R x_1->(decide ((qCH7 x_1)<(qCH8 y))=true->(qCHd t)/\∀(y_4:Nat),y_4=Int.natAbs t->qCHa<=(qCH7 x_1)/\(qCH7 x_1)+qCHe<=(↑(List.length ws):Int)/\∀(x_2:Int),ws[Int.toNat (qCH7 x_1)]? =some x_2->(qCHg y_4 x_2 y_3)/\∀(y_5:Int×Int),y_5=((↑y_4:Int)*x_2/y_3,(↑y_4:Int)*x_2%y_3)->qCHa<=(qCH7 x_1)/\(qCH7 x_1)+qCHe<=(qCH8 y)/\∀(x_3:Int),(Prod.fst y)[Int.toNat (qCH7 x_1)]? =some x_3->(qCHd x_3)/\∀(y_6:Nat),y_6=Int.natAbs x_3->(((↑y_6:Int)==Prod.fst y_5)=true->(decide (Prod.snd y_5>ShX.a x)=true->false=b)/\(decide (Prod.snd y_5>ShX.a x)=false->((Prod.snd y_5==ShX.a x)=true->(decide ((qCH7 x_1)<ShX.b x)=true->false=b)/\(decide ((qCH7 x_1)<ShX.b x)=false->∃(x_4:ShX),R x_4/\x_4.4+(1:Nat)<=x_1.4/\true=true/\(qCH9 t ws y y_3 x x_1 x_4)/\True))/\((Prod.snd y_5==ShX.a x)=false->∃
(x_4:ShX),R x_4/\x_4.4+(1:Nat)<=x_1.4/\true=true/\(qCH9 t ws y y_3 x x_1 x_4)/\True)))/\(((↑y_6:Int)==Prod.fst y_5)=false->∃(x_4:ShX),R x_4/\x_4.4+(1:Nat)<=x_1.4/\true=true/\(qCH9 t ws y y_3 x x_1 x_4)/\True))/\(decide ((qCH7 x_1)<(qCH8 y))=false->true=b)))))))):=by kernel_rfl
end
section
open Go Go.RowKit
theorem Zeq (ws:List Int):PureC E 17 [.psl .ints ws false] (.int false .i64 (weF ws)):=by
 refine Zg E_ok (Zm E_ok Zsk 400) ?_
 rw [Ze6]; delta qCH4 qCH3 qCH2 qCH1 qCH5
 refine ⟨fun h=> ?_,fun h=> ?_⟩
 · have h:=of_decide_eq_true h
   unfold weF
   rw [if_pos (by omega)]
 have h:=of_decide_eq_false h
 have hlen:ws.length<=256:=by omega
 have e0:weF ws=(if ws.all okW=false then 1 else if ws.sum=0 then 1 else 0):=by
  unfold weF
  rw [if_neg (by omega)]
 refine ⟨fun x=>x.k<=ws.length/\(ws.take x.k).all okW=true/\x.f= !decide ((ws.take x.k).sum=0)/\x.r=ws.length-x.k,⟨⟨false,0,ws.length⟩,⟨Nat.zero_le _,rfl,rfl,rfl⟩,rfl,⟨⟨rfl,fun h=>h⟩,rfl,rfl,rfl,trivial⟩,trivial⟩,fun x hx=> ?_⟩
 obtain ⟨hk,hall,hf,hr⟩:=hx
 obtain ⟨s1,s2,s3⟩:=V8 hall
 refine ⟨fun h1=> ?_,fun h1=> ?_⟩
 · have h1:=of_decide_eq_true h1
   have hlt:x.k<ws.length:=by omega
   obtain ⟨w,hw⟩:∃w,ws[x.k]? =some w:=⟨_,gB9 hlt⟩
   have hsn:=V9 hw
   have w3:wr .i64 ((x.k:Int)+1)=(x.k:Int)+1:=wrk (by omega) (by omega)
   rw [w3]
   have hw':∀v,ws[Int.toNat (x.k:Int)]? =some v->v=w:=by
    intro v hv
    rw [Int.toNat_natCast,hw] at hv
    cases hv
    rfl
   refine ⟨fun b=>b= !okW w,⟨by omega,by omega,fun v hv=> ?_⟩,fun q=> ?_,fun q=> ?_⟩
   · rw [hw' v hv]
     refine ⟨fun h2=> ?_,fun h2=>⟨by omega,by omega,fun v hv=> ?_⟩⟩
     · have h2:=of_decide_eq_true h2
       show true= !okW w
       unfold okW;simp;omega
     · rw [hw' v hv]
       have h2:=of_decide_eq_false h2
       refine ⟨fun h3=> ?_,fun h3=> ?_⟩
       · have h3:=of_decide_eq_true h3
         show true= !okW w
         unfold okW;simp;omega
       · have h3:=of_decide_eq_false h3
         show false= !okW w
         unfold okW;simp;omega
   · have q:okW w=false:=by simpa using q.symm
     have:ws.all okW=false:=by
      rw [List.all_eq_false]
      exact ⟨w,List.mem_iff_getElem?.2 ⟨x.k,hw⟩,by rw [q];decide⟩
     rw [e0,if_pos this]
   have q:okW w=true:=by simpa using q.symm
   have qb:0<=w/\w<=9007199254740992:=by unfold okW at q;simpa using q
   have hsum:(ws.take (x.k+1)).sum=(ws.take x.k).sum+w:=by rw [hsn,List.sum_append];simp
   have step:∀f:Bool,f=(!decide ((ws.take (x.k+1)).sum=0))->∃x_1:WeX,(x_1.k<=ws.length/\(ws.take x_1.k).all okW=true/\x_1.f=(!decide ((ws.take x_1.k).sum=0))/\x_1.r=ws.length-x_1.k)/\x_1.r+1<=x.r/\true=true/\((ws=ws/\(false=true->false=true))/\(0:Int)=0/\f=x_1.f/\(x.k:Int)+1=(x_1.k:Int)/\True)/\True:=by
    intro f hff
    refine ⟨⟨f,x.k+1,ws.length-(x.k+1)⟩,⟨by show x.k+1<=_;omega,?_,hff,rfl⟩,by show ws.length-(x.k+1)+1<=x.r;omega,rfl,⟨⟨rfl,fun h=>h⟩,rfl,rfl,rfl,trivial⟩,trivial⟩
    show (ws.take (x.k+1)).all okW=true
    rw [hsn,List.all_append,hall,Bool.true_and,List.all_cons,List.all_nil,q]
    rfl
   refine ⟨fun h2=> ?_,fun h2=>⟨by omega,by omega,fun v hv=> ?_⟩⟩
   · refine step true ?_
     rw [hf] at h2
     simp only [Bool.not_eq_true',decide_eq_false_iff_not] at h2
     rw [hsum,decide_eq_false (by omega)]
     rfl
   · rw [hw' v hv]
     rw [hf] at h2
     simp only [Bool.not_eq_false',decide_eq_true_eq] at h2
     refine ⟨fun h3=>step true ?_,fun h3=>step false ?_⟩
     · have h3:=of_decide_eq_true h3
       rw [hsum,decide_eq_false (by omega)]
       rfl
     · have h3:=of_decide_eq_false h3
       rw [hsum,decide_eq_true (by omega)]
       rfl
 · have h1:=of_decide_eq_false h1
   have hkl:x.k=ws.length:=by omega
   rw [hkl,List.take_length] at hf hall
   rw [e0,if_neg (by rw [hall];decide),hf]
   refine ⟨fun h2=> ?_,fun h2=> ?_⟩
   · simp only [Bool.not_not,decide_eq_true_eq] at h2
     rw [if_pos h2]
   · simp only [Bool.not_not,decide_eq_false_iff_not] at h2
     rw [if_neg h2]
theorem Zji (ws:List Int) (hall:ws.all okW=true) (hlen:ws.length<=256):PureC E 19 [.psl .ints ws false] (.int false .i64 ws.sum):=by
 refine Zg E_ok (Zm E_ok Zsl 400) ?_
 rw [Zjv]
 refine ⟨fun x=>x.k<=ws.length/\x.a=(ws.take x.k).sum/\x.r=ws.length-x.k,⟨⟨0,0,0,ws.length,[],[]⟩,⟨Nat.zero_le _,rfl,rfl⟩,rfl,⟨⟨rfl,fun h=>h⟩,rfl,rfl,rfl,trivial⟩,trivial⟩,fun x hx=> ?_⟩
 obtain ⟨hk,ha,hr⟩:=hx
 refine ⟨fun h1=> ?_,fun h1=> ?_⟩
 · have h1:=of_decide_eq_true h1
   refine ⟨by omega,by omega,fun w hw=> ?_⟩
   rw [Int.toNat_natCast] at hw
   have hsn:=V9 hw
   have w3:wr .i64 ((x.k:Int)+1)=(x.k:Int)+1:=wrk (by omega) (by omega)
   have hsum:(ws.take (x.k+1)).sum=(ws.take x.k).sum+w:=by rw [hsn,List.sum_append];simp
   have h2:(ws.take (x.k+1)).all okW=true:=List.all_eq_true.2 fun v hv=>List.all_eq_true.1 hall v (List.mem_of_mem_take hv)
   obtain ⟨s1,s2,s3⟩:=V8 h2
   have hl2:(ws.take (x.k+1)).length<=256:=by rw [List.length_take];omega
   have w4:wr .i64 (x.a+w)=x.a+w:=wrk (by omega) (by omega)
   rw [w3,w4]
   exact ⟨⟨x.a+w,0,x.k+1,ws.length-(x.k+1),[],[]⟩,⟨by show x.k+1<=_;omega,by show x.a+w=_;rw [hsum,ha],rfl⟩,by show ws.length-(x.k+1)+1<=x.r;omega,rfl,⟨⟨rfl,fun h=>h⟩,rfl,rfl,rfl,trivial⟩,trivial⟩
 · have h1:=of_decide_eq_false h1
   rw [show x.k=ws.length by omega,List.take_length] at ha
   exact ha
theorem Zqj:SumOk E 17 SweM:=Zar E_ok (Zw (f:=17) rfl) fun x _=>Zeq x.1
theorem Zqk:SumOk E 19 StoM:=Zar E_ok (Zw (f:=19) rfl) fun x h=>Zji x.1 h.1 h.2
theorem Zql:FnsOk E Fls0:=Zx (Zx (Zx (Zx (Zx Zfa Zqt) Zqu) Zlp) Zqj) Zqk
theorem Zse:FnsOk E Fls:=Zp E_ok (Zp E_ok Zql _ _ _) _ _ _
theorem Zjj {t:Int} {ws:List Int} (h:inR t=false\/weF ws≠0):(Xa t ws).1= []/\(Xa t ws).2≠0:=by
 unfold Xa
 unfold weF at h
 by_cases h1:256<ws.length
 · rw [if_pos h1];exact ⟨rfl,by decide⟩
 rw [if_neg h1] at h⊢
 by_cases h2:ws.all okW=false
 · rw [if_pos h2];exact ⟨rfl,by decide⟩
 rw [if_neg h2] at h⊢
 by_cases h3:ws.sum=0
 · rw [if_pos h3];exact ⟨rfl,by decide⟩
 rw [if_neg h3] at h⊢
 rw [if_pos (h.resolve_right fun k=>k rfl)]
 exact ⟨rfl,by decide⟩
theorem Zk9 {t:Int} {ws:List Int} (h:inR t=true) (hw:weF ws=0):ws.all okW=true/\ws.length<=256/\0<ws.sum/\Xa t ws=(outP (decide (t<0)) t.natAbs ws,0):=by
 unfold Xa
 unfold weF at hw
 by_cases h1:256<ws.length
 · rw [if_pos h1] at hw;cases hw
 rw [if_neg h1] at hw⊢
 by_cases h2:ws.all okW=false
 · rw [if_pos h2] at hw;cases hw
 rw [if_neg h2] at hw⊢
 by_cases h3:ws.sum=0
 · rw [if_pos h3] at hw;cases hw
 rw [if_neg h3,if_neg (by rw [h];decide)]
 have h2:ws.all okW=true:=by simpa using h2
 have:=(V8 h2).1
 exact ⟨h2,by omega,by omega,rfl⟩
theorem Zhw:∀l:List Int,totI l=l.sum
 | []=>rfl
 |x::r=>by rw [List.sum_cons,<-Zhw r];rfl
theorem Zpt:∀(l:List Int),(∀x∈l,0<=x)->0<=l.sum/\∀x∈l,x<=l.sum
 | [],_=>⟨by simp,fun x h=>by cases h⟩
 |y::r,h=>by
  obtain ⟨h1,h2⟩:=Zpt r fun x hx=>h x (by simp [hx])
  have h3:=h y (by simp)
  rw [List.sum_cons]
  refine ⟨by omega,fun x hx=> ?_⟩
  rcases List.mem_cons.1 hx with rfl|hx
  · omega
  · have:=h2 x hx;omega
theorem Zpu:∀(l:List Int),(∀x∈l,x<=0)->l.sum<=0/\∀x∈l,l.sum<=x
 | [],_=>⟨by simp,fun x h=>by cases h⟩
 |y::r,h=>by
  obtain ⟨h1,h2⟩:=Zpu r fun x hx=>h x (by simp [hx])
  have h3:=h y (by simp)
  rw [List.sum_cons]
  refine ⟨by omega,fun x hx=> ?_⟩
  rcases List.mem_cons.1 hx with rfl|hx
  · omega
  · have:=h2 x hx;omega
structure Pie (t S:Int) (ws R:List Int):Prop where
 len:R.length=ws.length
 tot:totF R=(t,0)
 at_:∃inc:Nat->Bool,(∀i w,ws[i]? =some w->∃v q m:Int,R[i]? =some v/\(t.natAbs:Int)*w/S=q/\(t.natAbs:Int)*w%S=m/\0<=m/\m<S/\0<=q/\q<=9007199254740992/\
  v=if t<0 then-(q+if inc i=true then 1 else 0) else q+if inc i=true then 1 else 0)/\
  ∀i j v w,ws[i]? =some v->ws[j]? =some w->inc i=true->inc j=false->(t.natAbs:Int)*w%S<(t.natAbs:Int)*v%S\/((t.natAbs:Int)*v%S=(t.natAbs:Int)*w%S/\i<j)
theorem pie {t:Int} {ws:List Int} (h:inR t=true) (hall:ws.all okW=true) (hS:0<ws.sum):Pie t ws.sum ws (outP (decide (t<0)) t.natAbs ws):=by
 have hb:=inR_iff.1 h
 obtain ⟨h1,h2,inc,h3,h4⟩:=Zqo (neg:=decide (t<0)) (A:=(t.natAbs:Int)) (by omega) hS
 generalize outP (decide (t<0)) t.natAbs ws=R at*
 obtain ⟨s1,s2,s3⟩:=V8 hall
 have hq:∀w∈ws,0<=(t.natAbs:Int)*w/ws.sum/\(t.natAbs:Int)*w/ws.sum<=9007199254740992:=by
  intro w hw
  obtain ⟨v1,v2,v3⟩:=s3 w hw
  refine ⟨Int.ediv_nonneg (Int.mul_nonneg (by omega) v1) (by omega),?_⟩
  have h5:(t.natAbs:Int)*w/ws.sum<=t.natAbs:=Int.ediv_le_of_le_mul hS (Int.mul_le_mul_of_nonneg_left v3 (by omega))
  omega
 have hat:∀i w,ws[i]? =some w->∃v q m:Int,R[i]? =some v/\(t.natAbs:Int)*w/ws.sum=q/\(t.natAbs:Int)*w%ws.sum=m/\0<=m/\m<ws.sum/\0<=q/\q<=9007199254740992/\
  v=if t<0 then-(q+if inc i=true then 1 else 0) else q+if inc i=true then 1 else 0:=by
  intro i w hi
  refine ⟨_,_,_,h3 i w hi,rfl,rfl,Int.emod_nonneg _ (by omega),Int.emod_lt_of_pos _ hS,(hq w (List.mem_iff_getElem?.2 ⟨i,hi⟩)).1,(hq w (List.mem_iff_getElem?.2 ⟨i,hi⟩)).2,?_⟩
  by_cases ht:t<0
  · rw [if_pos ht,if_pos (decide_eq_true ht)]
  · rw [if_neg ht,if_neg (by rw [decide_eq_false ht];decide)]
 have hmem:∀x∈R,∃q:Int,0<=q/\x=if t<0 then-q else q:=by
  intro x hx
  obtain ⟨i,hi⟩:=List.mem_iff_getElem?.1 hx
  have hl:i<ws.length:=by rw [<-h1];exact (gA9.1 hi).1
  obtain ⟨v,q,m,k1,_,_,_,_,k2,_,k3⟩:=hat i _ (gB9 hl)
  rw [hi] at k1
  cases k1
  exact ⟨_,by split<;>omega,k3⟩
 have hin:R.all inR=true:=by
  rw [List.all_eq_true]
  intro x hx
  rw [inR_iff]
  by_cases ht:t<0
  · have:=(Zpu R fun y hy=>by obtain ⟨q,k1,k2⟩:=hmem y hy;rw [if_pos ht] at k2;omega).2 x hx
    obtain ⟨q,k1,k2⟩:=hmem x hx
    rw [if_pos ht] at k2
    rw [h2,if_pos (decide_eq_true ht)] at this
    omega
  · have:=(Zpt R fun y hy=>by obtain ⟨q,k1,k2⟩:=hmem y hy;rw [if_neg ht] at k2;omega).2 x hx
    obtain ⟨q,k1,k2⟩:=hmem x hx
    rw [if_neg ht] at k2
    rw [h2,if_neg (by rw [decide_eq_false ht];decide)] at this
    omega
 refine ⟨h1,?_,inc,hat,h4⟩
 unfold totF
 rw [if_pos hin,Zhw,h2]
 have:(if decide (t<0)=true then-(t.natAbs:Int) else (t.natAbs:Int))=t:=by
  by_cases ht:t<0
  · rw [if_pos (decide_eq_true ht)];omega
  · rw [if_neg (by rw [decide_eq_false ht];decide)];omega
 rw [this]
 unfold rngF
 simp [h]
end
section
open Go Go.RowKit
theorem Zgw (t:Int) (ws:List Int):PureC E 4 [.int false .i64 t,.psl .ints ws false] (.bool false true):=by
 refine Zg E_ok (Zm E_ok Zse 400) ?_
 rw [Zgu]; delta qCHj qCHa qCH8 qCH6 qCHc qCH7 qCHd qCHe qCHg qCHi qCHb qCHh qCHf qCH9
 refine ⟨trivial,fun h=>absurd h (by decide),fun _=>⟨trivial,fun y hy=> ?_⟩⟩
 have err:(inR t=false\/weF ws≠0)->(((y.2 !=(0:Int))=true->(((y.1.length:Int)==0)=true->true=true)/\(((y.1.length:Int)==0)=false->false=true))/\((y.2 !=(0:Int))=false->false=true)):=by
  intro h
  obtain ⟨h1,h2⟩:=Zjj h
  rw [<-hy] at h1 h2
  refine ⟨fun _=>⟨fun _=>rfl,fun h3=> ?_⟩,fun h3=> ?_⟩
  · rw [h1] at h3;cases h3
  · simp [h2] at h3
 refine ⟨trivial,fun h=>err (.inl (by simpa using h)),fun hin=>⟨trivial,fun e he=>⟨fun h=>err (.inr (by rw [<-he];simpa using h)),fun hw=> ?_⟩⟩⟩
 have hin:inR t=true:=by simpa using hin
 have hw:weF ws=0:=by rw [<-he];simpa using hw
 clear err
 obtain ⟨hall,hlen,hS,hsh⟩:=Zk9 hin hw
 have P:=pie hin hall hS
 rw [hsh] at hy
 generalize outP (decide (t<0)) t.natAbs ws=R at*
 subst hy
 have hRl:R.length<=256:=by rw [P.len];omega
 have hb:=inR_iff.1 hin
 obtain ⟨s1,s2,s3⟩:=V8 hall
 refine ⟨fun b=>b=false,⟨fun h=>absurd h (by simp),fun _=>⟨fun h=>absurd h (by show ((R.length:Int) !=(ws.length:Int))≠true;rw [P.len];simp),fun _=>rfl⟩⟩,fun h=>absurd h (by decide),fun _=>⟨by show R.length<=_;omega,fun y2 hy2=> ?_⟩⟩
 have hy2:y2=(t,0):=by rw [hy2];exact P.tot
 subst hy2
 refine ⟨fun b=>b=false,⟨fun h=>absurd h (by simp),fun _=>⟨fun h=>absurd h (by simp),fun _=>rfl⟩⟩,fun h=>absurd h (by decide),fun _=>⟨⟨hall,hlen⟩,fun S hSe=> ?_⟩⟩
 have hP:=P
 rw [<-hSe] at hS hP s1 s2
 have s3:∀w∈ws,0<=w/\w<=9007199254740992/\w<=S:=by rw [hSe];exact s3
 clear hSe P
 obtain ⟨P1,P2,inc,P3,P4⟩:=hP
 generalize hA:t.natAbs=A at*
 have hAb:A<=9007199254740992:=by omega
 have hat:∀k:Nat,k<ws.length->∃w v q m:Int,ws[k]? =some w/\R[k]? =some v/\(A:Int)*w/S=q/\(A:Int)*w%S=m/\0<=m/\m<S/\0<=q/\q<=9007199254740992/\
  v=(if t<0 then-(q+if inc k=true then 1 else 0) else q+if inc k=true then 1 else 0)/\0<=w/\w<=S:=by
  intro k hk
  obtain ⟨v,q,m,h1,h2,h3,h4,h5,h6,h7,h8⟩:=P3 k _ (gB9 hk)
  have:=s3 _ (List.getElem_mem hk)
  exact ⟨_,v,q,m,gB9 hk,h1,h2,h3,h4,h5,h6,h7,h8,this.1,this.2.2⟩
 refine ⟨fun x=>x.k<=ws.length/\x.r=ws.length-x.k/\(((∀j,j<x.k->inc j=false)/\x.a=S/\x.b=0)\/∃(j:Nat) (w:Int),j<x.k/\ws[j]? =some w/\inc j=true/\x.a=A*w%S/\x.b=j/\∀(i:Nat) (v:Int),i<x.k->ws[i]? =some v->inc i=true->x.a<A*v%S\/(A*v%S=x.a/\i<=j)),
  ⟨⟨S,0,0,ws.length,[],[]⟩,⟨Nat.zero_le _,rfl,.inl ⟨fun j h=>absurd h (Nat.not_lt_zero _),rfl,rfl⟩⟩,rfl,⟨rfl,⟨rfl,fun h=>h⟩,rfl,⟨rfl,fun h=>h⟩,rfl,rfl,rfl,rfl,trivial⟩,trivial⟩,fun x hx=> ?_⟩
 obtain ⟨hk,hr,hI⟩:=hx
 refine ⟨fun h1=> ?_,fun h1=> ?_⟩
 · have h1:=of_decide_eq_true h1
   have h1:x.k<ws.length:=by
    have h1:(x.k:Int)<(R.length:Int):=h1
    omega
   obtain ⟨w,v,q,m,e1,e2,e3,e4,m0,m1,q0,q1,hv,w0,w1⟩:=hat x.k h1
   refine ⟨⟨by omega,by omega⟩,fun y4 hy4=>⟨by omega,by omega,fun w' hw'=> ?_⟩⟩
   rw [Int.toNat_natCast,e1] at hw'
   cases hw'
   rw [hy4];clear hy4 y4
   refine ⟨⟨by omega,by omega,w0,w1,by omega,by omega⟩,fun y5 hy5=> ?_⟩
   rw [e3,e4] at hy5
   subst hy5
   refine ⟨by omega,by show (x.k:Int)+1<=(R.length:Int);omega,fun v' hv'=> ?_⟩
   rw [Int.toNat_natCast] at hv'
   have hv':R[x.k]? =some v':=hv'
   rw [e2] at hv'
   cases hv'
   dsimp only
   have wq:wr .i64 (q+1)=q+1:=wrk (by omega) (by omega)
   have wk:wr .i64 ((x.k:Int)+1)=(x.k:Int)+1:=wrk (by omega) (by omega)
   rw [wq,wk]
   have main:∀p:Int,p=q+(if inc x.k=true then 1 else 0)->
    ∃(Q:Bool->Prop),(((p !=q)=true->((p !=q+1)=true->Q true)/\((p !=q+1)=false->Q false))/\((p !=q)=false->Q false))/\(Q true->false=true)/\(Q false->∃(Q:Bool->Prop),(((p==q+1)=true->(decide (m<x.a)=true->Q true)/\(decide (m<x.a)=false->((m==x.a)=true->(decide ((x.k:Int)>x.b)=true->Q true)/\(decide ((x.k:Int)>x.b)=false->Q false))/\((m==x.a)=false->Q false)))/\((p==q+1)=false->Q false))/\(Q true->∃(x_3:ShX),(x_3.k<=ws.length/\x_3.r=ws.length-x_3.k/\(((∀j,j<x_3.k->inc j=false)/\x_3.a=S/\x_3.b=0)\/∃(j:Nat) (w:Int),j<x_3.k/\ws[j]? =some w/\inc j=true/\x_3.a=A*w%S/\x_3.b=j/\∀(i:Nat) (v:Int),i<x_3.k->ws[i]? =some v->inc i=true->x_3.a<A*v%S\/(A*v%S=x_3.a/\i<=j)))/\x_3.r+1<=x.r/\true=true/\(t=t/\(ws=ws/\(false=true->false=true))/\false=false/\(R=R/\(false=true->false=true))/\S=S/\m=x_3.a/\(x.k:Int)=x_3.b/\(x.k:Int)+1=(x_3.k:Int)/\True)/\True)/\
    (Q false->∃(x_3:ShX),(x_3.k<=ws.length/\x_3.r=ws.length-x_3.k/\(((∀j,j<x_3.k->inc j=false)/\x_3.a=S/\x_3.b=0)\/∃(j:Nat) (w:Int),j<x_3.k/\ws[j]? =some w/\inc j=true/\x_3.a=A*w%S/\x_3.b=j/\∀(i:Nat) (v:Int),i<x_3.k->ws[i]? =some v->inc i=true->x_3.a<A*v%S\/(A*v%S=x_3.a/\i<=j)))/\x_3.r+1<=x.r/\true=true/\(t=t/\(ws=ws/\(false=true->false=true))/\false=false/\(R=R/\(false=true->false=true))/\S=S/\x.a=x_3.a/\x.b=x_3.b/\(x.k:Int)+1=(x_3.k:Int)/\True)/\True)):=by
    intro p hp
    refine ⟨fun b=>b=false,⟨fun h2=>⟨fun h3=> ?_,fun _=>rfl⟩,fun _=>rfl⟩,fun h=>absurd h (by decide),fun _=> ?_⟩
    · exfalso
      simp only [bne_iff_ne,ne_eq] at h2 h3
      cases hi:inc x.k<;>simp [hi] at hp<;>omega
    refine ⟨fun b=>b=(inc x.k&&(decide (m<x.a)||(decide (m=x.a)&&decide (x.b<(x.k:Int))))),⟨fun h2=> ?_,fun h2=> ?_⟩,fun hq=> ?_,fun hq=> ?_⟩
    · have hi:inc x.k=true:=by
       rw [beq_iff_eq] at h2
       cases hi:inc x.k
       · simp [hi] at hp;omega
       · rfl
      rw [hi]
      refine ⟨fun h3=>by have h3:=of_decide_eq_true h3;simp [h3],fun h3=> ?_⟩
      have h3:=of_decide_eq_false h3
      refine ⟨fun h4=>⟨fun h5=> ?_,fun h5=> ?_⟩,fun h4=> ?_⟩
      · have h5:=of_decide_eq_true h5
        have h4:=beq_iff_eq.1 h4
        simp [h4];omega
      · have h5:=of_decide_eq_false h5
        have h4:=beq_iff_eq.1 h4
        simp [h4];omega
      · have h4:=beq_eq_false_iff_ne.1 h4
        simp [h4];omega
    · have hi:inc x.k=false:=by
       rw [beq_eq_false_iff_ne] at h2
       cases hi:inc x.k
       · rfl
       · simp [hi] at hp;omega
      rw [hi];rfl
    · have hq:=hq.symm
      simp only [Bool.and_eq_true,Bool.or_eq_true,decide_eq_true_eq] at hq
      refine ⟨⟨m,x.k,x.k+1,ws.length-(x.k+1),[],[]⟩,⟨by show x.k+1<=_;omega,rfl,.inr ⟨x.k,w,by show x.k<x.k+1;omega,e1,hq.1,e4.symm,rfl,?_⟩⟩,by clear hI;show ws.length-(x.k+1)+1<=x.r;omega,rfl,⟨rfl,⟨rfl,fun h=>h⟩,rfl,⟨rfl,fun h=>h⟩,rfl,rfl,rfl,rfl,trivial⟩,trivial⟩
      intro i v2 hi hv2 hic
      have hi:i<x.k+1:=hi
      show m<A*v2%S\/(A*v2%S=m/\i<=x.k)
      by_cases hik:i=x.k
      · subst hik
        rw [e1] at hv2
        cases hv2
        exact .inr ⟨e4,Nat.le_refl _⟩
      · have hi:i<x.k:=by omega
        rcases hI with ⟨h5,_,_⟩|⟨j,wj,j1,j2,j3,j4,j5,j6⟩
        · rw [h5 i hi] at hic;cases hic
        · rcases j6 i v2 hi hv2 hic with h7|⟨h7,h8⟩
          · omega
          · omega
    · have hq:=hq.symm
      refine ⟨⟨x.a,x.b,x.k+1,ws.length-(x.k+1),[],[]⟩,⟨by show x.k+1<=_;omega,rfl,?_⟩,by clear hI;show ws.length-(x.k+1)+1<=x.r;omega,rfl,⟨rfl,⟨rfl,fun h=>h⟩,rfl,⟨rfl,fun h=>h⟩,rfl,rfl,rfl,rfl,trivial⟩,trivial⟩
      show ((∀j,j<x.k+1->inc j=false)/\x.a=S/\x.b=0)\/∃(j:Nat) (w:Int),j<x.k+1/\ws[j]? =some w/\inc j=true/\x.a=A*w%S/\x.b=j/\∀(i:Nat) (v:Int),i<x.k+1->ws[i]? =some v->inc i=true->x.a<A*v%S\/(A*v%S=x.a/\i<=j)
      cases hi:inc x.k with
      |false=>
       rcases hI with ⟨h5,h6,h7⟩|⟨j,wj,j1,j2,j3,j4,j5,j6⟩
       · refine .inl ⟨fun j hj=> ?_,h6,h7⟩
         by_cases hjk:j=x.k
         · rw [hjk,hi]
         · exact h5 j (by omega)
       · refine .inr ⟨j,wj,by omega,j2,j3,j4,j5,fun i v2 hi2 hv2 hic=> ?_⟩
         by_cases hik:i=x.k
         · rw [hik,hi] at hic;cases hic
         · exact j6 i v2 (by omega) hv2 hic
      |true=>
       rw [hi,Bool.true_and,Bool.or_eq_false_iff] at hq
       have hq1:=of_decide_eq_false hq.1
       have hq2:¬(m=x.a/\x.b<(x.k:Int)):=by
        rintro ⟨k1,k2⟩
        have:=hq.2
        rw [decide_eq_true k1,decide_eq_true k2] at this
        cases this
       rcases hI with ⟨h5,h6,h7⟩|⟨j,wj,j1,j2,j3,j4,j5,j6⟩
       · omega
       · refine .inr ⟨j,wj,by omega,j2,j3,j4,j5,fun i v2 hi2 hv2 hic=> ?_⟩
         by_cases hik:i=x.k
         · subst hik
           rw [e1] at hv2
           cases hv2
           rw [e4]
           omega
         · exact j6 i v2 (by omega) hv2 hic
   refine ⟨fun h2=> ?_,fun h2=> ?_⟩
   · have h2:=of_decide_eq_true h2
     rw [if_pos h2] at hv
     exact main _ (by rw [wrk (by split at hv<;>omega) (by split at hv<;>omega),hv];omega)
   · have h2:=of_decide_eq_false h2
     rw [if_neg h2] at hv
     exact main _ hv
 · have h1:=of_decide_eq_false h1
   have h1:x.k=ws.length:=by
    have h1:¬(x.k:Int)<(R.length:Int):=h1
    omega
   refine ⟨fun z=>z.k<=ws.length/\z.r=ws.length-z.k,⟨⟨0,0,0,ws.length,[],[]⟩,⟨Nat.zero_le _,rfl⟩,rfl,⟨rfl,⟨rfl,fun h=>h⟩,rfl,⟨rfl,fun h=>h⟩,rfl,rfl,rfl,rfl,trivial⟩,trivial⟩,fun z hz=> ?_⟩
   obtain ⟨hz1,hz2⟩:=hz
   refine ⟨fun h2=> ?_,fun _=>rfl⟩
   have h2:=of_decide_eq_true h2
   have h2:z.k<ws.length:=by
    have h2:(z.k:Int)<(R.length:Int):=h2
    omega
   obtain ⟨w,v,q,m,e1,e2,e3,e4,m0,m1,q0,q1,hv,w0,w1⟩:=hat z.k h2
   have wk:wr .i64 ((z.k:Int)+1)=(z.k:Int)+1:=wrk (by omega) (by omega)
   have go:∃(x_4:ShX),(x_4.k<=ws.length/\x_4.r=ws.length-x_4.k)/\x_4.r+1<=z.r/\true=true/\(t=t/\(ws=ws/\(false=true->false=true))/\false=false/\(R=R/\(false=true->false=true))/\S=S/\x.a=x.a/\x.b=x.b/\wr IntKind.i64 ((z.k:Int)+1)=(x_4.k:Int)/\True)/\True:=
    ⟨⟨0,0,z.k+1,ws.length-(z.k+1),[],[]⟩,⟨by show z.k+1<=_;omega,rfl⟩,by show ws.length-(z.k+1)+1<=z.r;omega,rfl,⟨rfl,⟨rfl,fun h=>h⟩,rfl,⟨rfl,fun h=>h⟩,rfl,rfl,rfl,wk,trivial⟩,trivial⟩
   refine ⟨⟨by omega,by omega⟩,fun y4 hy4=>⟨by omega,by omega,fun w' hw'=> ?_⟩⟩
   rw [Int.toNat_natCast,e1] at hw'
   cases hw'
   rw [hy4];clear hy4 y4
   refine ⟨⟨by omega,by omega,w0,w1,by omega,by omega⟩,fun y5 hy5=> ?_⟩
   rw [e3,e4] at hy5
   subst hy5
   refine ⟨by omega,by show (z.k:Int)+1<=(R.length:Int);omega,fun v' hv'=> ?_⟩
   rw [Int.toNat_natCast] at hv'
   have hv':R[z.k]? =some v':=hv'
   rw [e2] at hv'
   cases hv'
   refine ⟨by constructor<;>(split at hv<;>split at hv<;>omega),fun y6 hy6=>⟨fun h3=> ?_,fun _=>go⟩⟩
   have h3:(y6:Int)=q:=beq_iff_eq.1 h3
   have hni:inc z.k=false:=by
    cases hi:inc z.k
    · rfl
    · rw [hi] at hv
      simp at hv
      split at hv<;>omega
   have key:m<=x.a/\(m=x.a->x.b<=(z.k:Int)):=by
    rcases hI with ⟨_,h6,h7⟩|⟨j,wj,j1,j2,j3,j4,j5,j6⟩
    · omega
    · rcases P4 j z.k wj w j2 e1 j3 hni with h8|⟨h8,h9⟩
      · rw [e4] at h8;omega
      · rw [e4] at h8;omega
   dsimp only
   refine ⟨fun h4=>absurd (of_decide_eq_true h4) (by omega),fun _=>⟨fun h5=>⟨fun h6=> ?_,fun _=>go⟩,fun _=>go⟩⟩
   have h5:=beq_iff_eq.1 h5
   have h6:=of_decide_eq_true h6
   have:=key.2 h5
   omega
end
end Go.Proofs.YthonhikjbpplnaaGreatDoor
end
