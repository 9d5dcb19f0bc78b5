/- Merged texts: Size, Money, Region, EvalR, MapFn, EvalT, EvalU, EvalV, EvalW, TvX, EngZH, EngZI, EngZJ, TpA, TtA, TtS, TtD, TtE, TvLay, TtG, TpB, TpC, TpD, EngZK, TpE, TpF, TtF. -/
import Derived.Test.YtddgkebdlgglaaaGreatDoorProg
import Derived.Deep.QuietTactic
import Derived.BigQuiet
import Derived.StillTailTactics
import Derived.Deep.MidRow
import Derived.Deep.RegionHeld
import Derived.Defers
import Derived.Recover
import Derived.LaidEql
import Derived.Shelf.Strings.SlTrimAscii
import Derived.Shelf.Strings.OnBuilder
import Derived.Shelf.Strconv.Itoa0
import Derived.Shelf.Strconv.Itoa1
import Derived.Test.YtddgkebdlgglaaaGreatDoorMc
namespace Go.Proofs.YtddgkebdlgglaaaGreatDoor
set_option linter.unusedVariables false
set_option linter.unusedSimpArgs false
set_option linter.unnecessarySimpa false
set_option maxRecDepth 100000
section
open Go.RowKit
theorem Y2:(Tryz.prog.info? 52).map (·.size)=some 7:=by kernel_rfl
set_option maxHeartbeats 1000000 in
theorem Yam (f:Nat):∀(limit:Nat) (d:Nat) (cs:List Value) (e:Ex) (w:World),1<=limit->limit<=f->limit<=100000->ExIn w d cs e->
 Calls Tryz.prog 73 #[.agg cs.toArray,.int .i64 limit] w fun en w'=>en= .returned (.int .i64 (Zcx (f+1) e limit))/\Ext w w':=by
 induction f with
 |zero=>intro limit d cs e w h1 h2;omega
 |succ f ih=>
  intro limit d cs e w h1 h2 h3 he
  have ih':=Lib.hid ih
  clear ih
  have hfin:Zcx (f+1+1) e limit=Zby (Zcx (f+1)) e.l 1 limit:=rfl
  rw [hfin]
  clear hfin
  obtain ⟨A,cap,u0,u1,u2,u3,rfl,_,_,hlen,hcap,hel⟩:=he.open_
  generalize e.l=l at*
  generalize hn:l.length=n at*
  have HN:=Lib.hid hn
  have HEL:=Lib.hid hel
  clear hn hel he
  go_enter Tryz.func73,Tryz.ntmps73
  go_wp2_with fail
  generalize hw0:w.alloc _=w0
  have hx0:Ext w w0:=by rw [<-hw0];exact (Ext.refl _).alloc _
  have hc0:w0.cell? ⟨w.heap.size,6,none⟩=some (.slice A n cap):=by rw [<-hw0];simp [go_sem]
  clear hw0
  go_loopw [5,6] (fun n5 i wr=>∃k q:Nat,k<=n/\i= .int .i64 k/\n5= .int .i64 q/\1<=q/\q<=limit/\Hid (Zby (Zcx (f+1)) (l.drop k) q limit=Zby (Zcx (f+1)) l 1 limit)/\Ext w0 wr) (fun _ i _=>n-(intOf i).toNat)
  case atStart=>exact ⟨0,1,Nat.zero_le _,rfl,rfl,Nat.le_refl _,h1,rfl,Ext.refl _⟩
  case round=>
   obtain ⟨k,q,hk,rfl,rfl,hq1,hq2,HR,hx⟩:=hrel
   have hc:=hx.cell hc0
   by_cases hlt:k<n
   · by_cases hql:q<limit
     · obtain ⟨b,o,rfl,hb,hi⟩:=HEL.out (by omega)
       have hlk:k<l.length:=by rw [HN.out];exact hlt
       obtain ⟨cs1,hl1,hr1,hE1⟩:=hi k l[k] (List.getElem?_eq_getElem hlk)
       have hE2:=(hE1.ext hx0).ext hx
       have hr2:=hx.range (hx0.range hr1)
       have HL1:=Lib.hid hl1
       have hsz:=Z0t (f+1) l[k] (limit-q) (by omega)
       have hstep:Zby (Zcx (f+1)) (l.drop k) q limit=Zby (Zcx (f+1)) (l.drop (k+1)) (q+Zcx (f+1) l[k] (limit-q)) limit:=by
        rw [List.drop_eq_getElem_cons hlk]
        simp only [Zby,if_pos hql]
       have hcall:=Lib.hid (ih'.out (limit-q) _ cs1 l[k] _ (by omega) (by omega) (by omega) hE2)
       have hcast:((limit-q:Nat):Int)=(limit:Int)-q:=by omega
       rw [hcast] at hcall
       have HC:=hcall
       have HS:=Lib.hid hstep
       clear hstep hcall hcast hi hr1 hE1 hE2 hl1
       generalize Zcx (f+1) l[k] (limit-q)=m at*
       go_wp2_with (refine wpList_load_mid rfl 52 _ rfl b (o+k*7) rfl cs1 _ hr2 Tryz.underlying52 rfl (by rw [HL1.out];exact Y2) ?_)
       refine HC.out.mono ?_
       rintro e1 w1 ⟨rfl,hx1⟩
       go_wp2_with fail
       go_roundw
       case rel=>exact ⟨k+1,q+m,by omega,by go_num,by go_num,by omega,by omega,HS.out.symm.trans HR.out,hx.trans hx1⟩
       case measure=>simp [intOf];omega
     · have hst:Zby (Zcx (f+1)) (l.drop k) q limit=q:=Zr0 _ hql
       rw [hst] at HR
       clear hst
       go_wp2_with fail
       go_ret
       exact ⟨Vf (by rw [HR.out]),hx0.trans hx⟩
   · have hst:Zby (Zcx (f+1)) (l.drop k) q limit=q:=by
      rw [List.drop_of_length_le (by rw [HN.out];omega)];rfl
     rw [hst] at HR
     clear hst
     go_wp2_with fail
     go_ret
     exact ⟨Vf (by rw [HR.out]),hx0.trans hx⟩
set_option maxHeartbeats 400000 in
theorem Z2d (op:Int) (w:World):Calls Tryz.prog 113 #[.int .i64 op] w fun en w'=>en= .returned (.int .i64 (opsF op))/\w=w':=by
 by_cases h1:op<1
 · go_enter Tryz.func113,Tryz.ntmps113
   go_wp2_with fail
   go_ret
   exact ⟨Vf (by unfold opsF;rw [if_pos (by omega)]),rfl⟩
 · by_cases h2:11<op
   · go_enter Tryz.func113,Tryz.ntmps113
     go_wp2_with fail
     go_ret
     exact ⟨Vf (by unfold opsF;rw [if_pos (by omega)]),rfl⟩
   · have h3:op=1\/op=2\/op=3\/op=4\/op=5\/op=6\/op=7\/op=8\/op=9\/op=10\/op=11:=by omega
     clear h1 h2
     rcases h3 with rfl|rfl|rfl|rfl|rfl|rfl|rfl|rfl|rfl|rfl|rfl
     all_goals
      go_enter Tryz.func113,Tryz.ntmps113
      go_wp2_with fail
      go_ret
      exact ⟨Vf (by decide),rfl⟩
theorem Z7i (op:Int): -1<=opsF op/\opsF op<=4:=by unfold opsF;(repeat' split)<;>omega
set_option maxHeartbeats 1000000 in
theorem Zlk (dn:Nat):∀(d:Nat) (cs:List Value) (e:Ex) (w:World),dn<=1000->ExIn w d cs e->
 Calls Tryz.prog 74 #[.agg cs.toArray,.int .i64 dn] w fun en w'=>en= .returned (.bool (Xt dn e))/\Ext w w':=by
 induction dn with
 |zero=>
  intro d cs e w h3 he
  obtain ⟨A,cap,u0,u1,u2,u3,rfl,_,_,hlen,hcap,hel⟩:=he.open_
  clear hel he
  go_enter Tryz.func74,Tryz.ntmps74
  go_wp2_with fail
  go_quiet (fail)
  go_wp2_with fail
  go_ret
  exact ⟨X3 rfl,((Ext.refl _).alloc _).drewN _⟩
 |succ dn ih=>
  intro d cs e w h3 he
  have ih':=Lib.hid ih
  clear ih
  rw [show ((dn+1:Nat):Int)=(dn:Int)+1 from by omega]
  have hfin:Xt (dn+1) e=(decide ((e.l.length:Int)=opsF e.op)&&
   (if e.op=1 then decide (0<=e.n)&&decide (e.n<=1099511627776) else if e.op=2 then decide (0<=e.n)&&decide (e.n<16) else e.l.all (Xt dn))):=rfl
  have HF:=Lib.hid hfin
  clear hfin
  generalize Xt (dn+1) e=r at*
  obtain ⟨A,cap,u0,u1,u2,u3,rfl,_,_,hlen,hcap,hel⟩:=he.open_
  generalize e.l=l at*
  generalize e.op=op at*
  generalize e.n=nn at*
  generalize hn:l.length=n at*
  have HN:=Lib.hid hn
  have HEL:=Lib.hid hel
  have hops:=Z7i op
  have ho:=fun w=>Z2d op w
  generalize opsF op=q at*
  have HO:=Lib.hid ho
  clear hn hel he ho
  by_cases hnq:(n:Int)=q
  · have hb:((n:Int) !=q)=false:=by rw [bne_eq_false_iff_eq];exact hnq
    have HD:=Lib.hid hnq
    clear hnq
    by_cases h1:op=1
    · subst h1
      go_enter Tryz.func74,Tryz.ntmps74
      go_wp2_with fail
      go_quiet ((go_at_call 113;exact Calls.quiet_of_same ((HO.out _).mono fun _ _ h=>⟨h.1,h.2.symm⟩)))
      go_wp2_with fail
      all_goals go_ret
      all_goals exact ⟨X3 (by rw [HF.out,Bool.eq_iff_iff];simp [HD.out];try omega),((Ext.refl _).alloc _).drewN _⟩
    · by_cases h2:op=2
      · subst h2
        go_enter Tryz.func74,Tryz.ntmps74
        go_wp2_with fail
        go_quiet ((go_at_call 113;exact Calls.quiet_of_same ((HO.out _).mono fun _ _ h=>⟨h.1,h.2.symm⟩)))
        go_wp2_with fail
        all_goals go_ret
        all_goals exact ⟨X3 (by rw [HF.out,Bool.eq_iff_iff];simp [HD.out];try omega),((Ext.refl _).alloc _).drewN _⟩
      · have e0:((dn:Int)+1==0)=false:=by rw [beq_eq_false_iff_ne];omega
        have e1:(op==1)=false:=by simpa using h1
        have e2:(op==2)=false:=by simpa using h2
        have HF2:=Lib.hid (show r=l.all (Xt dn) by rw [HF.out];simp [HD.out,h1,h2])
        clear HF h1 h2
        go_enter Tryz.func74,Tryz.ntmps74
        go_wp2_with fail
        go_quiet ((go_at_call 113;exact Calls.quiet_of_same ((HO.out _).mono fun _ _ h=>⟨h.1,h.2.symm⟩)))
        go_wp2_with fail
        generalize hw0:World.drewN _ _=w0
        have hx0:Ext w w0:=by rw [<-hw0];exact ((Ext.refl _).alloc _).drewN _
        clear hw0
        go_loopw [43] (fun i wr=>∃k:Nat,k<=n/\i= .int .i64 k/\Hid ((l.take k).all (Xt dn)=true)/\Ext w0 wr) (fun i _=>n-(intOf i).toNat)
        case atStart=>exact ⟨0,Nat.zero_le _,rfl,rfl,Ext.refl _⟩
        case round=>
         obtain ⟨k,hk,rfl,HR,hx⟩:=hrel
         by_cases hlt:k<n
         · obtain ⟨b,o,rfl,hb,hi⟩:=HEL.out (by omega)
           have hlk:k<l.length:=by rw [HN.out];exact hlt
           obtain ⟨cs1,hl1,hr1,hE1⟩:=hi k l[k] (List.getElem?_eq_getElem hlk)
           have hE2:=(hE1.ext hx0).ext hx
           have hr2:=hx.range (hx0.range hr1)
           have HL1:=Lib.hid hl1
           have hts:l.take (k+1)=l.take k++ [l[k]]:=List.take_succ_eq_append_getElem hlk
           have hm:l[k]∈l:=List.getElem_mem _
           have HT:=Lib.hid hts
           have HM:=Lib.hid hm
           generalize l[k]=x at*
           obtain ⟨A1,cap1,v0,v1,v2,v3,rfl,_⟩:=hE2.open_
           have hcall:=fun (W:World) (h:Ext wr W)=>ih'.out _ _ x W (by omega) (hE2.ext h)
           cases hfx:Xt dn x
           · rw [hfx] at hcall
             have HC:=Lib.hid hcall
             have HX:=Lib.hid hfx
             clear hcall hi hr1 hE1 hE2 hl1 hts hm hfx
             go_wp2_with (refine wpList_load_mid rfl 52 _ rfl b (o+k*7) rfl _ _ hr2 Tryz.underlying52 rfl Y2 ?_)
             refine (HC.out _ ((Ext.refl _).alloc _)).mono ?_
             rintro e1 w1 ⟨rfl,hx1⟩
             go_wp2_with fail
             go_ret
             refine ⟨X3 ?_,(hx0.trans hx).trans (((Ext.refl _).alloc _).trans hx1)⟩
             rw [HF2.out,eq_comm,List.all_eq_false]
             exact ⟨x,HM.out,by simp [HX.out]⟩
           · rw [hfx] at hcall
             have HC:=Lib.hid hcall
             have HX:=Lib.hid hfx
             clear hcall hi hr1 hE1 hE2 hl1 hts hm hfx
             go_wp2_with (refine wpList_load_mid rfl 52 _ rfl b (o+k*7) rfl _ _ hr2 Tryz.underlying52 rfl Y2 ?_)
             refine (HC.out _ ((Ext.refl _).alloc _)).mono ?_
             rintro e1 w1 ⟨rfl,hx1⟩
             go_wp2_with fail
             go_roundw
             case rel=>exact ⟨k+1,by omega,by go_num,(by rw [HT.out,List.all_append,HR.out];simp [HX.out]:(l.take (k+1)).all (Xt dn)=true),hx.trans (((Ext.refl _).alloc _).trans hx1)⟩
             case measure=>simp [intOf];omega
         · have hkn:l.length<=k:=by rw [HN.out];omega
           have HK:=Lib.hid hkn
           clear hkn
           go_wp2_with fail
           go_ret
           exact ⟨X3 (by rw [HF2.out,<-HR.out,List.take_of_length_le HK.out]),hx0.trans hx⟩
  · have hb:((n:Int) !=q)=true:=by rw [bne_iff_ne];exact hnq
    have HD:=Lib.hid hnq
    clear hnq
    go_enter Tryz.func74,Tryz.ntmps74
    go_wp2_with fail
    go_quiet ((go_at_call 113;exact Calls.quiet_of_same ((HO.out _).mono fun _ _ h=>⟨h.1,h.2.symm⟩)))
    go_wp2_with fail
    go_ret
    exact ⟨X3 (by rw [HF.out];simp [HD.out]),((Ext.refl _).alloc _).drewN _⟩
end
section
open Go.RowKit
set_option maxHeartbeats 400000 in
theorem Zvz (a:Int) (w:World) (h: -9007199254740992<=a) (h2:a<=9007199254740992):
 Calls Tryz.prog 153 #[.int .i64 a] w fun e w'=>e= .returned (.int .u64 a.natAbs)/\w=w':=by
 go_enter Tryz.func153,Tryz.ntmps153
 go_wp2_with fail
 all_goals go_ret
 · exact ⟨Vf (by simp only [IntKind.wrap_u64];omega),rfl⟩
 · exact ⟨Vf (by omega),rfl⟩
set_option maxHeartbeats 400000 in
theorem Z3e (a:Addr) (n c:Nat) (zs:List Int) (w:World) (hl:zs.length=n) (hn:n<=1000) (hc:∀i,i<n->w.cell? (a.add i)=some (.int .i64 (zs.getD i 0))):
 Calls Tryz.prog 150 #[.slice (some a) n c] w fun e w'=>e= .returned (.bool (zs.all inR))/\w=w':=by
 have H:=Lib.hid hl
 clear hl
 go_enter Tryz.func150,Tryz.ntmps150
 go_wp2_with fail
 go_loop [4,7] (fun _ i=>∃k:Nat,k<=n/\i= .int .i64 k/\(zs.take k).all inR=true) (fun _ i=>n-(intOf i).toNat)
 case atStart=>exact ⟨0,Nat.zero_le _,rfl,rfl⟩
 case round=>
  obtain ⟨k,hk,rfl,hr⟩:=hrel
  have HR:=Lib.hid hr
  clear hr
  by_cases hlt:k<n
  · have hcell:=hc k hlt
    have hg:zs.getD k 0=zs[k]'(by rw [H.out];exact hlt):=by simp [H.out,hlt]
    have hts:zs.take (k+1)=zs.take k++ [zs.getD k 0]:=by
     rw [List.take_succ_eq_append_getElem (by rw [H.out];exact hlt),hg]
    have hall:inR (zs.getD k 0)=false->zs.all inR=false:=by
     intro h
     rw [Bool.eq_false_iff]
     intro hh
     have:=(List.all_eq_true.1 hh) (zs.getD k 0) (by rw [hg];exact List.getElem_mem _)
     rw [h] at this
     cases this
    have HT:=Lib.hid hts
    have HA:=Lib.hid hall
    clear hts hg hc hall
    generalize zs.getD k 0=z at*
    by_cases hz1:z< -9007199254740992
    · go_wp2_with fail
      go_ret
      exact ⟨X3 (HA.out (inR_not.2 (by omega))).symm,rfl⟩
    · by_cases hz2:9007199254740992<z
      · go_wp2_with fail
        go_ret
        exact ⟨X3 (HA.out (inR_not.2 (by omega))).symm,rfl⟩
      · go_wp2_with fail
        go_round
        case rel=>exact ⟨k+1,by omega,by go_num,by rw [HT.out];simp [HR.out,inR_iff];omega⟩
        case measure=>simp [intOf];omega
  · have hkn:zs.length<=k:=by rw [H.out];omega
    have HK:=Lib.hid hkn
    clear hkn
    go_wp2_with fail
    go_ret
    exact ⟨X3 (by rw [<-HR.out,List.take_of_length_le HK.out]),rfl⟩
set_option maxHeartbeats 400000 in
theorem Zgu (a:Int) (w:World):
 Calls Tryz.prog 151 #[.int .i64 a] w fun e w'=>e= .returned (.tuple #[.int .i64 (rngF a).1,.int .i64 (rngF a).2])/\Ext w w':=by
 cases h:inR a
 all_goals
  have e0: [a].all inR=inR a:=by simp
  rw [h] at e0
  have H:=Lib.hid h
  have E0:=Lib.hid e0
  clear h e0
  go_enter Tryz.func151,Tryz.ntmps151
  go_wp2_with fail
  refine (Z3e _ 1 _ [a] _ rfl (by omega) ?_).mono ?_
  · intro i hi
    obtain rfl:i=0:=by omega
    simp [go_sem]
  rw [E0.out]
  rintro e w1 ⟨rfl,rfl⟩
  go_wp2_with fail
  go_ret2
  exact ⟨Zu (by simp [rngF,H.out]) (by simp [rngF,H.out]),(Ext.refl _).alloc _⟩
set_option maxHeartbeats 400000 in
theorem Xz (a b:Int) (w:World) (A:Addr) (c:Nat) (h0:w.cell? (A.add 0)=some (.int .i64 a)) (h1:w.cell? (A.add 1)=some (.int .i64 b)) (r:Bool) (hr:Hid ((inR a&&inR b)=r)):
 Calls Tryz.prog 150 #[.slice (some A) 2 c] w fun e w'=>e= .returned (.bool r)/\w=w':=by
 refine (Z3e A 2 c [a,b] w rfl (by omega) ?_).mono fun e w' h=> ?_
 · intro i hi
   match i,hi with
   |0,_=>exact h0
   |1,_=>exact h1
 · simpa [hr.out] using h
set_option maxHeartbeats 400000 in
theorem Z5h (a b:Int) (w:World):
 Calls Tryz.prog 136 #[.int .i64 a,.int .i64 b] w fun e w'=>e= .returned (.tuple #[.int .i64 (addF a b).1,.int .i64 (addF a b).2])/\Ext w w':=by
 cases h:inR a&&inR b
 · have H:=Lib.hid h
   clear h
   go_enter Tryz.func136,Tryz.ntmps136
   go_wp2_with fail
   refine (Xz a b _ _ _ (by simp [go_sem]) (by simp [go_sem]) _ H).mono ?_
   rintro e w1 ⟨rfl,rfl⟩
   go_wp2_with fail
   go_ret2
   exact ⟨Zu (by simp only [addF,H.out];rfl) (by simp only [addF,H.out];rfl),(Ext.refl _).alloc _⟩
 · have H:=Lib.hid h
   have hb:=h
   simp only [Bool.and_eq_true,inR_iff] at hb
   obtain ⟨⟨h1,h2⟩,h3,h4⟩:=hb
   clear h
   go_enter Tryz.func136,Tryz.ntmps136
   go_wp2_with fail
   refine (Xz a b _ _ _ (by simp [go_sem]) (by simp [go_sem]) _ H).mono ?_
   rintro e w1 ⟨rfl,rfl⟩
   go_wp2_with fail
   refine (Zgu _ _).mono ?_
   rintro e w1 ⟨rfl,hx⟩
   go_wp2_with fail
   go_ret2
   exact ⟨Zu (by simp only [addF,H.out];rfl) (by simp only [addF,H.out];rfl),((Ext.refl _).alloc _).trans hx⟩
set_option maxHeartbeats 400000 in
theorem Z5i (a b:Int) (w:World):
 Calls Tryz.prog 138 #[.int .i64 a,.int .i64 b] w fun e w'=>e= .returned (.tuple #[.int .i64 (subF a b).1,.int .i64 (subF a b).2])/\Ext w w':=by
 cases h:inR a&&inR b
 · have H:=Lib.hid h
   clear h
   go_enter Tryz.func138,Tryz.ntmps138
   go_wp2_with fail
   refine (Xz a b _ _ _ (by simp [go_sem]) (by simp [go_sem]) _ H).mono ?_
   rintro e w1 ⟨rfl,rfl⟩
   go_wp2_with fail
   go_ret2
   exact ⟨Zu (by simp only [subF,H.out];rfl) (by simp only [subF,H.out];rfl),(Ext.refl _).alloc _⟩
 · have H:=Lib.hid h
   have hb:=h
   simp only [Bool.and_eq_true,inR_iff] at hb
   obtain ⟨⟨h1,h2⟩,h3,h4⟩:=hb
   clear h
   go_enter Tryz.func138,Tryz.ntmps138
   go_wp2_with fail
   refine (Xz a b _ _ _ (by simp [go_sem]) (by simp [go_sem]) _ H).mono ?_
   rintro e w1 ⟨rfl,rfl⟩
   go_wp2_with fail
   refine (Zgu _ _).mono ?_
   rintro e w1 ⟨rfl,hx⟩
   go_wp2_with fail
   go_ret2
   exact ⟨Zu (by simp only [subF,H.out];rfl) (by simp only [subF,H.out];rfl),((Ext.refl _).alloc _).trans hx⟩
set_option maxHeartbeats 400000 in
theorem Zv0 (x y:Nat) (hx:x<=9007199254740992) (hy:y<=9007199254740992) (w:World):
 Calls Tryz.prog 152 #[.int .u64 x,.int .u64 y] w fun e w'=>e= .returned (.tuple #[.int .u64 (x*y/18446744073709551616:Nat),.int .u64 (x*y%18446744073709551616:Nat)])/\w=w':=by
 go_enter Tryz.func152,Tryz.ntmps152
 go_wp2_with fail
 go_ret2
 refine ⟨Zu ?_ (Yas x y),rfl⟩
 rw [Zu0 x (by omega),Zu0 y (by omega)]
 have h:=Yar (x%4294967296) (x/4294967296) (y%4294967296) (y/4294967296) (by omega) (by omega) (by omega) (by omega)
 rw [Zuz x y]
 exact h
set_option maxHeartbeats 400000 in
theorem Z5j (a b:Int) (w:World):
 Calls Tryz.prog 139 #[.int .i64 a,.int .i64 b] w fun e w'=>e= .returned (.tuple #[.int .i64 (mulF a b).1,.int .i64 (mulF a b).2])/\Ext w w':=by
 cases h:inR a&&inR b
 · have H:=Lib.hid h
   clear h
   go_enter Tryz.func139,Tryz.ntmps139
   go_wp2_with fail
   refine (Xz a b _ _ _ (by simp [go_sem]) (by simp [go_sem]) _ H).mono ?_
   rintro e w1 ⟨rfl,rfl⟩
   go_wp2_with fail
   go_ret2
   exact ⟨Zu (by simp only [mulF,H.out];rfl) (by simp only [mulF,H.out];rfl),(Ext.refl _).alloc _⟩
 · have H:=Lib.hid h
   have hb:=h
   simp only [Bool.and_eq_true,inR_iff] at hb
   obtain ⟨⟨h1,h2⟩,h3,h4⟩:=hb
   clear h
   have hm:=Zzr h1 h2 h3 h4
   have hle:a.natAbs*b.natAbs<=9007199254740992*9007199254740992:=Nat.mul_le_mul (by omega) (by omega)
   have ha:=Zvz a
   have hb:=Zvz b
   have hM:=Zv0 a.natAbs b.natAbs (by omega) (by omega)
   have HM:=Lib.hid hM
   have HA:=Lib.hid ha
   have HB:=Lib.hid hb
   clear ha hb hM
   have hab:inR (a*b)=true-> -9007199254740992<=a*b/\a*b<=9007199254740992:=inR_iff.1
   by_cases hz:a.natAbs*b.natAbs<=9007199254740992
   · have hin:inR (a*b)=true:=by rw [hm];simp [hz]
     have hx:=hab hin
     obtain ⟨hx1,hx2⟩:=hx
     have z1:((a.natAbs*b.natAbs/18446744073709551616:Nat):Int)=0:=by omega
     have z2:((a.natAbs*b.natAbs%18446744073709551616:Nat):Int)<=9007199254740992:=by omega
     have HI:=Lib.hid hin
     have Z1:=Lib.hid z1
     have Z2:=Lib.hid z2
     clear hin hm hab z1 z2 hz hle
     go_enter Tryz.func139,Tryz.ntmps139
     go_wp2_with fail
     refine (Xz a b _ _ _ (by simp [go_sem]) (by simp [go_sem]) _ H).mono ?_
     rintro e w1 ⟨rfl,rfl⟩
     go_wp2_with fail
     refine (HA.out _ h1 h2).mono ?_
     rintro e w1 ⟨rfl,rfl⟩
     go_wp2_with fail
     refine (HB.out _ h3 h4).mono ?_
     rintro e w1 ⟨rfl,rfl⟩
     go_wp2_with fail
     refine (HM.out _).mono ?_
     rw [Z1.out]
     have z2:=Z2.out
     generalize ((a.natAbs*b.natAbs%18446744073709551616:Nat):Int)=q at*
     rintro e w1 ⟨rfl,rfl⟩
     go_wp2_with fail
     go_ret2
     exact ⟨Zu (by simp only [mulF,H.out,rngF,HI.out];rfl) (by simp only [mulF,H.out,rngF,HI.out];rfl),(Ext.refl _).alloc _⟩
   · have hin:inR (a*b)=false:=by rw [hm];simp [hz]
     have HI:=Lib.hid hin
     clear hin hm hab
     generalize a.natAbs*b.natAbs=p at*
     have hp2:((p/18446744073709551616:Nat):Int)=0/\9007199254740992<((p%18446744073709551616:Nat):Int)\/0<((p/18446744073709551616:Nat):Int):=by omega
     generalize ((p/18446744073709551616:Nat):Int)=q1 at*
     generalize ((p%18446744073709551616:Nat):Int)=q2 at*
     clear hz hle
     rcases hp2 with ⟨rfl,hq⟩|hq
     all_goals
      go_enter Tryz.func139,Tryz.ntmps139
      go_wp2_with fail
      refine (Xz a b _ _ _ (by simp [go_sem]) (by simp [go_sem]) _ H).mono ?_
      rintro e w1 ⟨rfl,rfl⟩
      go_wp2_with fail
      refine (HA.out _ h1 h2).mono ?_
      rintro e w1 ⟨rfl,rfl⟩
      go_wp2_with fail
      refine (HB.out _ h3 h4).mono ?_
      rintro e w1 ⟨rfl,rfl⟩
      go_wp2_with fail
      refine (HM.out _).mono ?_
      rintro e w1 ⟨rfl,rfl⟩
      go_wp2_with fail
      go_ret2
      exact ⟨Zu (by simp only [mulF,H.out,rngF,HI.out];rfl) (by simp only [mulF,H.out,rngF,HI.out];rfl),(Ext.refl _).alloc _⟩
set_option maxHeartbeats 400000 in
theorem Z5k (a b m:Int) (w:World):
 Calls Tryz.prog 154 #[.int .i64 a,.int .i64 b,.int .i64 m] w fun e w'=>e= .returned (.tuple #[.int .i64 (divF a b m).1,.int .i64 (divF a b m).2])/\Ext w w':=by
 by_cases hm:m<8\/10<m
 · have HM:=Lib.hid hm
   have g1:(m !=8)=true:=by rw [bne_iff_ne];omega
   have g2:(m !=9)=true:=by rw [bne_iff_ne];omega
   have g3:(m !=10)=true:=by rw [bne_iff_ne];omega
   clear hm
   go_enter Tryz.func154,Tryz.ntmps154
   go_wp2_with fail
   go_ret2
   exact ⟨Zu (by simp only [divF,if_pos HM.out]) (by simp only [divF,if_pos HM.out]),Ext.refl _⟩
 · have HM:=Lib.hid hm
   have hm3:m=8\/m=9\/m=10:=by omega
   clear hm
   cases h:inR a&&inR b
   · have H:=Lib.hid h
     clear h
     rcases hm3 with rfl|rfl|rfl
     all_goals
      go_enter Tryz.func154,Tryz.ntmps154
      go_wp2_with fail
      refine (Xz a b _ _ _ (by simp [go_sem]) (by simp [go_sem]) _ H).mono ?_
      rintro e w1 ⟨rfl,rfl⟩
      go_wp2_with fail
      go_ret2
      exact ⟨Zu (by simp only [divF,if_neg HM.out,H.out];rfl) (by simp only [divF,if_neg HM.out,H.out];rfl),(Ext.refl _).alloc _⟩
   · have H:=Lib.hid h
     have hb:=h
     simp only [Bool.and_eq_true,inR_iff] at hb
     obtain ⟨⟨h1,h2⟩,h3,h4⟩:=hb
     clear h
     by_cases hb0:b<=0
     · have HB0:=Lib.hid hb0
       rcases hm3 with rfl|rfl|rfl
       all_goals
        go_enter Tryz.func154,Tryz.ntmps154
        go_wp2_with fail
        refine (Xz a b _ _ _ (by simp [go_sem]) (by simp [go_sem]) _ H).mono ?_
        rintro e w1 ⟨rfl,rfl⟩
        go_wp2_with fail
        go_ret2
        exact ⟨Zu (by simp only [divF,if_neg HM.out,H.out,if_pos HB0.out];rfl) (by simp only [divF,if_neg HM.out,H.out,if_pos HB0.out];rfl),(Ext.refl _).alloc _⟩
     · have HB0:=Lib.hid hb0
       have hb1:0<b:=by omega
       rcases hm3 with rfl|rfl|rfl
       · go_enter Tryz.func154,Tryz.ntmps154
         go_wp2_with fail
         refine (Xz a b _ _ _ (by simp [go_sem]) (by simp [go_sem]) _ H).mono ?_
         rintro e w1 ⟨rfl,rfl⟩
         go_wp2_with fail
         · have ht:a.tmod b<0:=by assumption
           go_ret2
           exact ⟨Zu (by rw [Zl8 hb1 ht];simp [divF,H.out,Int.not_le.2 hb1]) (by simp [divF,H.out,Int.not_le.2 hb1]),(Ext.refl _).alloc _⟩
         · have ht:0<=a.tmod b:=by assumption
           go_ret2
           exact ⟨Zu (by rw [Zl9 hb1 ht];simp [divF,H.out,Int.not_le.2 hb1]) (by simp [divF,H.out,Int.not_le.2 hb1]),(Ext.refl _).alloc _⟩
       · go_enter Tryz.func154,Tryz.ntmps154
         go_wp2_with fail
         refine (Xz a b _ _ _ (by simp [go_sem]) (by simp [go_sem]) _ H).mono ?_
         rintro e w1 ⟨rfl,rfl⟩
         go_wp2_with fail
         · have ht:0<a.tmod b:=by assumption
           go_ret2
           exact ⟨Zu (by rw [Yap hb1 ht];simp [divF,H.out,Int.not_le.2 hb1]) (by simp [divF,H.out,Int.not_le.2 hb1]),(Ext.refl _).alloc _⟩
         · have ht:a.tmod b<=0:=by assumption
           go_ret2
           exact ⟨Zu (by rw [Yaq hb1 ht];simp [divF,H.out,Int.not_le.2 hb1]) (by simp [divF,H.out,Int.not_le.2 hb1]),(Ext.refl _).alloc _⟩
       · go_enter Tryz.func154,Tryz.ntmps154
         go_wp2_with fail
         refine (Xz a b _ _ _ (by simp [go_sem]) (by simp [go_sem]) _ H).mono ?_
         rintro e w1 ⟨rfl,rfl⟩
         go_wp2_with fail
         · have ht:(2*a+b).tmod (2*b)<0:=by assumption
           go_ret2
           exact ⟨Zu (by rw [Zl8 (by omega) ht];simp [divF,H.out,Int.not_le.2 hb1]) (by simp [divF,H.out,Int.not_le.2 hb1]),(Ext.refl _).alloc _⟩
         · have ht:0<=(2*a+b).tmod (2*b):=by assumption
           go_ret2
           exact ⟨Zu (by rw [Zl9 (by omega) ht];simp [divF,H.out,Int.not_le.2 hb1]) (by simp [divF,H.out,Int.not_le.2 hb1]),(Ext.refl _).alloc _⟩
end
section
open Go.RowKit
section
variable {P : Program} {ops : Array Oper} {Q : Exit → Act → World → Prop} {S : World → Prop}
def ordB (ops:Array Oper):List (Nat×Bool)->Array Bool->Bool
 | [],listed=>(Region.ready .any ops listed).isEmpty
 |(i,true)::r,listed=>(Region.ready .any ops listed).contains i&&Region.free .any ops listed i&&ordB ops r (listed.setIfInBounds i true)
 |(i,false)::r,listed=>decide (Region.ready .any ops listed= [i])&&ordB ops r (listed.setIfInBounds i true)
def Zog (P:Program) (ops:Array Oper) (Q:Exit->Act->World->Prop) (S:World->Prop):List (Nat×Bool)->Act->World->Prop
 | [],a,w=>Q .normal a w
 |(i,true)::r,a,w=>∃o v,ops[i]? =some o/\YieldsIf P ops S o v a/\Zog P ops Q S r (a.put o.dst v) w
 |(i,false)::r,a,w=>∃o,ops[i]? =some o/\Region.wanted o (yielded ops a.tmps)=true/\o.wp P a w (fun a' w'=>S w'/\Zog P ops Q S r a' w') Q
theorem Vu (hsel:Region.noSelect ops=true):
 ∀(ord:List (Nat×Bool)) (listed:Array Bool) (a:Act) (w:World),(∀p∈ord,p.2=true->∀o,ops[p.1]? =some o->∀c a w v,Q (.panic c) (a.put o.dst v) w->Q (.panic c) a w)->
  ordB ops ord listed=true->S w->Zog P ops Q S ord a w->wpAnyH P .any ops Q S ord.length listed a w
 | [],listed,a,w,hQ,hB,hS,h=>wpAnyH_done (by simpa [ordB] using hB) h 0
 |(i,true)::r,listed,a,w,hQ,hB,hS,h=>by
  simp only [ordB,Bool.and_eq_true] at hB
  obtain ⟨o,v,ho,hy,h⟩:=h
  exact wpAnyH_take ho hsel hB.1.2 hB.1.1 (fun c a w hq=>hQ (i,true) (by simp) rfl o ho c a w _ hq) hy hS (Vu hsel r _ _ _ (fun p hp=>hQ p (by simp [hp])) hB.2 hS h)
 |(i,false)::r,listed,a,w,hQ,hB,hS,h=>by
  simp only [ordB,Bool.and_eq_true,decide_eq_true_eq] at hB
  obtain ⟨o,ho,hw,h⟩:=h
  refine wpAnyH_all hB.1 (by simp) fun j hj=> ?_
  obtain rfl:j=i:=by simpa using hj
  unfold wpOp
  simp only [ho,hw,if_true]
  refine .inl (Oper.wp_mono ?_ h)
  intro a' w' ⟨hS',h'⟩
  exact ⟨hS',Vu hsel r _ _ _ (fun p hp=>hQ p (by simp [hp])) hB.2 hS' h'⟩
theorem Zas {id:Nat} {a:Act} {w:World} {l:List Oper} (ord:List (Nat×Bool)) (S:World->Prop) (hm:P.follows .mixedOrders=true)
 (hB:(Region.noSelect l.toArray&&decide (ord.length=l.length)&&ordB l.toArray ord (Array.replicate l.toArray.size false))=true)
 (hQ:∀p∈ord,p.2=true->∀o,l.toArray[p.1]? =some o->∀c a w v,Q (.panic c) (a.put o.dst v) w->Q (.panic c) a w) (hS:S w.drew) (h:Zog P l.toArray Q S ord a w.drew):(Code.region id l.toArray true).wp P Q a w:=by
 simp only [Bool.and_eq_true,decide_eq_true_eq] at hB
 refine wp_region_held_drew (S:=S) hm hS fun hS=> ?_
 have:=Vu (Q:=Q) hB.1.1 ord _ a w.drew hQ hB.2 hS h
 rw [hB.1.2] at this
 simpa using this
theorem Zi0 {id:Nat} {a:Act} {w:World} {l:List Oper} (ord:List (Nat×Bool)) (S:World->Prop) (hm:P.follows .mixedOrders=true)
 (hB:(Region.noSelect l.toArray&&decide (ord.length=l.length)&&ordB l.toArray ord (Array.replicate l.toArray.size false))=true)
 (hQ:∀c a w d v,Q (.panic c) (a.put d v) w->Q (.panic c) a w) (hS:S w.drew) (h:Zog P l.toArray Q S ord a w.drew):(Code.region id l.toArray true).wp P Q a w:=
 Zas ord S hm hB (fun _ _ _ _ _ c a w v hq=>hQ c a w _ v hq) hS h
theorem Zi1 {o:Oper} {a:Act} {v:Value} (h:Region.wanted o (yielded ops a.tmps)=true) (hr:∀w,S w->(execOp a.eval o).run P w= .ok (.value v) w):YieldsIf P ops S o v a:= .inl ⟨h,hr⟩
end
end
section
open Go.RowKit
theorem X5:(Tryz.prog.info? 36).map (·.size)=some 17:=by kernel_rfl
theorem Ev.cell (x:Ev) (hx:x.ok) (a:Nat) (ha:a<16):x.cells[1+a]? =some (.int .i64 (x.v.getD a 0)):=by
 have h:a<x.v.length:=by rw [hx.1];exact ha
 rw [Nat.add_comm]
 simp [Ev.cells,h]
theorem ExIn.nth {w:World} {d:Nat} {cs:List Value} {e:Ex} (h:ExIn w d cs e) (i:Nat) (hi:i<e.l.length):
 ∃b o cap u0 u1 u2 u3 cs',cs= [.int .i64 e.op,.int .i64 e.n,.int .i64 u0,.int .i64 u1,.int .i64 u2,.int .i64 u3,.slice (some ⟨b,o,none⟩) e.l.length cap]/\e.l.length<=cap/\
  b<w.heap.size/\cs'.length=7/\w.rangeAt b (o+i*7) cs'/\ExIn w (d-1) cs' (e.l.getD i exT0):=by
 obtain ⟨A,cap,u0,u1,u2,u3,rfl,_,_,_,hc,hel⟩:=h.open_
 obtain ⟨b,o,rfl,hb,hi'⟩:=hel (by omega)
 obtain ⟨cs',h1,h2,h3⟩:=hi' i e.l[i] (List.getElem?_eq_getElem hi)
 exact ⟨b,o,cap,u0,u1,u2,u3,cs',rfl,hc,hb,h1,h2,by simpa [List.getD,hi] using h3⟩
end
section
open Go.RowKit
section
variable {P : Program} {ops : Array Oper} {Q : Exit → Act → World → Prop} {a : Act} {rest : List Oper} {o : Oper}
theorem V0 (b:Bool) (n kt:Nat) (k:Int) (w:World) (hkt:P.underlying kt=some (.int .i64)):(Instr.checkKey b (n+1) kt (.int .i64 k)).run P w= .ok () w:=by
 unfold Instr.checkKey
 rw [Sem.run_bind,run_underlying hkt w]
 rfl
theorem Uw (kt:Nat) (k:Int) (es:List MapEntry) (res:Option (Nat×Value)) (w:World) (hkt:P.underlying kt=some (.int .i64)) (hf:Instr.findNow (.int .i64) (.int .i64 k) es 0=some res):
 (Instr.findKey kt (.int .i64 k) es).run P w= .ok res w:=by
 unfold Instr.findKey
 rw [Sem.run_bind,run_underlying hkt w]
 simp only [Result.andThen_ok,hf]
 rfl
theorem Zar (w:World) (r:Nat) (es:Array MapEntry) (c:Nat) (hg:w.heap[r]? =some (.map es c)):(getObj r).run P w= .ok (.map es c) w:=by
 simp [getObj,Sem.run,hg]
theorem Zfp (w1:World) (T kt et:TypeId) (es:Array MapEntry) (c:Nat) (k:Int) (v:Value) (r:Nat) (hr:r=w1.heap.size) (hT:P.underlying T=some (.map kt et)) (hkt:P.underlying kt=some (.int .i64))
 (hf:Instr.findNow (.int .i64) (.int .i64 k) es.toList 0=some none):
 (Instr.mapUpdate T (.map (some r)) (.int .i64 k) v).run P (w1.alloc (.map es c))= .ok () (w1.alloc (.map (es.push ⟨.int .i64 k,v,c⟩) (c+1))):=by
 subst hr
 have hg:(w1.alloc (.map es c)).heap[w1.heap.size]? =some (.map es c):=heap_alloc_new w1 _
 have hs:({(w1.alloc (.map es c)) with heap:=(w1.alloc (.map es c)).heap.setIfInBounds w1.heap.size (.map (es.push ⟨.int .i64 k,v,c⟩) (c+1))}:World)=w1.alloc (.map (es.push ⟨.int .i64 k,v,c⟩) (c+1)):=by
  have he:(w1.alloc (.map es c)).heap.setIfInBounds w1.heap.size (.map (es.push ⟨.int .i64 k,v,c⟩) (c+1))=(w1.alloc (.map (es.push ⟨.int .i64 k,v,c⟩) (c+1))).heap:=by
   apply Array.ext_getElem?
   intro i
   show ((w1.heap.push _).setIfInBounds _ _)[i]? =(w1.heap.push _)[i]?
   rw [Array.getElem?_setIfInBounds,Array.getElem?_push,Array.getElem?_push]
   by_cases hi:w1.heap.size=i
   · subst hi;simp
   · rw [if_neg hi,if_neg (by omega),if_neg (by omega)]
  rw [he]
  rfl
 unfold Instr.mapUpdate
 rw [Sem.run_bind,run_underlying hT]
 simp only [Result.andThen_ok]
 rw [Sem.run_bind,Zar _ _ _ _ hg]
 simp only [Result.andThen_ok]
 rw [Sem.run_bind,V0 false 9999 kt k _ hkt]
 simp only [Result.andThen_ok]
 rw [Sem.run_bind,Uw kt k _ none _ hkt hf]
 simp only [Result.andThen_ok]
 rw [<-hs]
 simp only [setObj,Sem.run,hg]
theorem Zcg (hgd:o.guard=none) (T:TypeId) (m kx vx:Operand) (ho:o.op= .insert T m kx vx) (w1:World) (kt et:TypeId) (es:Array MapEntry) (c:Nat) (k:Int) (v:Value) (r:Nat)
 (hm:a.eval m= .map (some r)) (hr:r=w1.heap.size) (hk:a.eval kx= .int .i64 k) (hv:a.eval vx=v) (hT:P.underlying T=some (.map kt et)) (hkt:P.underlying kt=some (.int .i64))
 (hf:Instr.findNow (.int .i64) (.int .i64 k) es.toList 0=some none)
 (h:wpList P ops Q rest (a.put o.dst undef) (w1.alloc (.map (es.push ⟨.int .i64 k,v,c⟩) (c+1)))):wpList P ops Q (o::rest) a (w1.alloc (.map es c)):=
 wpList_plain hgd fun K hK=>by
  unfold Oper.wp execOp
  simp only [ho,hm,hk,hv,Sem.run_bind,Zfp w1 T kt et es c k v r hr hT hkt hf,Result.andThen_ok,Sem.run_pure]
  exact hK _ _ h
theorem Zix (w:World) (T kt et:TypeId) (es:Array MapEntry) (c:Nat) (k:Int) (v:Value) (i r:Nat) (hT:P.underlying T=some (.map kt et)) (hkt:P.underlying kt=some (.int .i64))
 (hg:w.heap[r]? =some (.map es c)) (hf:Instr.findNow (.int .i64) (.int .i64 k) es.toList 0=some (some (i,v))):
 (Instr.lookup T (.map (some r)) (.int .i64 k) false).run P w= .ok v w:=by
 unfold Instr.lookup
 rw [Sem.run_bind,run_underlying hT]
 simp only [Result.andThen_ok]
 rw [Sem.run_bind,Zar _ _ _ _ hg]
 simp only [Result.andThen_ok]
 rw [Sem.run_bind]
 simp only [Sem.run_pure,Result.andThen_ok]
 rw [Sem.run_bind,V0 _ 9999 kt k _ hkt]
 simp only [Result.andThen_ok]
 rw [Sem.run_bind,Uw kt k _ _ _ hkt hf]
 rfl
theorem Zsu {W:World} (hw:Region.wanted o (yielded ops a.tmps)=true) (T:TypeId) (m kx:Operand) (ho:o.op= .lookup T m kx false) (kt et:TypeId) (es:Array MapEntry) (c:Nat) (k:Int) (v:Value) (i r:Nat)
 (hm:a.eval m= .map (some r)) (hk:a.eval kx= .int .i64 k) (hT:P.underlying T=some (.map kt et)) (hkt:P.underlying kt=some (.int .i64))
 (hg:W.heap[r]? =some (.map es c)) (hr:r<W.heap.size) (hf:Instr.findNow (.int .i64) (.int .i64 k) es.toList 0=some (some (i,v))):YieldsIf P ops (Ext W) o v a:=
 .inl ⟨hw,fun w h=>by
  unfold execOp
  simp only [ho,hm,hk,Sem.run_bind,Zix w T kt et es c k v i r hT hkt ((h.block hr).trans hg) hf,Result.andThen_ok,Sem.run_pure]⟩
end
end
section
open Go.RowKit
def Zy5 (X:Nat):Array MapEntry:= #[⟨.int .i64 3,.func (.func 104) #[.pointer (some ⟨X,0,none⟩)] #[],0⟩,⟨.int .i64 4,.func (.func 105) #[.pointer (some ⟨X,0,none⟩)] #[],1⟩,⟨.int .i64 5,.func (.func 106) #[.pointer (some ⟨X,0,none⟩)] #[],2⟩,⟨.int .i64 6,.func (.func 107) #[.pointer (some ⟨X,0,none⟩)] #[],3⟩,⟨.int .i64 7,.func (.func 108) #[.pointer (some ⟨X,0,none⟩)] #[],4⟩,⟨.int .i64 8,.func (.func 109) #[.pointer (some ⟨X,0,none⟩)] #[],5⟩,⟨.int .i64 9,.func (.func 110) #[.pointer (some ⟨X,0,none⟩)] #[],6⟩,⟨.int .i64 10,.func (.func 111) #[.pointer (some ⟨X,0,none⟩)] #[],7⟩,⟨.int .i64 11,.func (.func 112) #[.pointer (some ⟨X,0,none⟩)] #[],8⟩]
def EvAt (w:World) (X:Nat) (x:Ev):Prop:=∃M,w.heap[X]? =some (.cells (x.cells++ [Value.map (some M)]).toArray 161 (0,0))/\w.heap[M]? =some (.map (Zy5 X) 9)
theorem EvAt.ext {w w':World} (hx:Ext w w') {X:Nat} {x:Ev} (h:EvAt w X x):EvAt w' X x:=by
 obtain ⟨M,h1,h2⟩:=h
 have lt:∀{k:Nat} {o:Obj},w.heap[k]? =some o->k<w.heap.size:=fun {k o} h=>by
  rcases Nat.lt_or_ge k w.heap.size with h'|h'
  · exact h'
  · rw [Array.getElem?_eq_none h'] at h;cases h
 exact ⟨M,(hx.block (lt h1)).trans h1,(hx.block (lt h2)).trans h2⟩
theorem Z7r (w:World) (A B C:Obj):(((w.alloc A).alloc B).alloc C).heap[w.heap.size+1]? =some B/\(((w.alloc A).alloc B).alloc C).heap[w.heap.size+1+1]? =some C:=by
 constructor
 · show (((w.heap.push A).push B).push C)[w.heap.size+1]? =_
   rw [Array.getElem?_push,if_neg (by simp),Array.getElem?_push,if_pos (by simp)]
 · show (((w.heap.push A).push B).push C)[w.heap.size+1+1]? =_
   rw [Array.getElem?_push,if_pos (by simp)]
theorem Zlt (cs:List Value):∀(k:Nat) (A:Array Value),k+cs.length<=A.size->
 (cs.zipIdx k).foldl (fun cs x=>cs.setIfInBounds x.2 x.1) A=(A.toList.take k++cs++A.toList.drop (k+cs.length)).toArray:=by
 induction cs with
 |nil=>intro k A _;simp
 |cons c cs ih=>
  intro k A h
  simp only [List.length_cons] at h
  rw [List.zipIdx_cons,List.foldl_cons,ih (k+1) _ (by simp;omega)]
  have hk:k<A.toList.length:=by simp;omega
  congr 1
  simp only [Array.toList_setIfInBounds,List.length_cons]
  rw [List.take_succ_eq_append_getElem (by simpa using hk),List.take_set_of_le (by omega),List.getElem_set_self,List.drop_set_of_lt (by omega)]
  simp [Nat.add_assoc,Nat.add_comm 1]
set_option maxHeartbeats 1000000 in
theorem Zje (x:Ev) (w:World) (hx:x.ok):
 Calls Tryz.prog 71 #[.agg x.cells.toArray] w fun en w'=>en= .returned (.pointer (some ⟨w.heap.size+1,0,none⟩))/\Ext w w'/\EvAt w' (w.heap.size+1) x:=by
 have hmm:= @run_makeMap Tryz.prog
 have hmf:∀(fn:Fn) (first cap:Array Value) (w:World),(Instr.makeFunc fn first cap).run Tryz.prog w= .ok (.func fn first cap) w:=fun _ _ _ _=>rfl
 have hxl:x.cells.length=17:=by simp [Ev.cells,hx.1]
 have hxr:(w.alloc (.cells x.cells.toArray 36)).rangeAt (w.heap.size) 0 x.cells:=by
  intro j v hv;simp [go_sem,hv]
 generalize hcs:x.cells=cs at*
 have HCS:=Lib.hid hcs
 clear hcs
 have hfold:cs.zipIdx.foldl (fun cs x=>cs.setIfInBounds x.2 x.1) #[Value.int .i64 0,.int .i64 0,.int .i64 0,.int .i64 0,.int .i64 0,.int .i64 0,.int .i64 0,.int .i64 0,.int .i64 0,.int .i64 0,.int .i64 0,.int .i64 0,.int .i64 0,.int .i64 0,.int .i64 0,.int .i64 0,.int .i64 0,Value.map none]=(cs++ [Value.map none]).toArray:=by
  have:=Zlt cs 0 #[Value.int .i64 0,.int .i64 0,.int .i64 0,.int .i64 0,.int .i64 0,.int .i64 0,.int .i64 0,.int .i64 0,.int .i64 0,.int .i64 0,.int .i64 0,.int .i64 0,.int .i64 0,.int .i64 0,.int .i64 0,.int .i64 0,.int .i64 0,Value.map none] (by rw [hxl];decide)
  rw [this,hxl]
  rfl
 go_enter Tryz.func71,Tryz.ntmps71
 go_wp2_with (first
  |(refine wpList_load_mid rfl 36 _ rfl (w.heap.size) 0 rfl cs _ hxr Tryz.underlying36 rfl (by rw [hxl];exact X5) ?_)
  |(refine Zcg rfl 159 _ _ _ rfl _ _ _ _ _ _ _ _ rfl (by simp) rfl rfl Tryz.underlying159 Tryz.underlying3 rfl ?_))
 go_ret
 refine ⟨rfl,(((Ext.refl _).alloc _).alloc _).alloc _,w.heap.size+1+1,?_,?_⟩
 · rw [HCS.out]
   exact (Z7r w _ _ _).1
 · exact (Z7r w _ _ _).2
def Zt1 (e:Int):Value:= .iface 158 (.agg #[.int .i64 e])
def Zdd (e:Int):List PanicEntry:= [{v:=Zt1 e,recovered:=false}]
def Outc (r:Int×Int) (en:Ending):Prop:=(r.2=0/\en= .returned (.int .i64 r.1))\/(r.2≠0/\en= .panicked (Zdd r.2))
set_option maxHeartbeats 1000000 in
theorem Zhf (n:Int) (w:World):Calls Tryz.prog 135 #[.int .i64 n,.int .i64 0] w fun en w'=>en= .returned (.int .i64 n)/\w=w':=by
 go_enter Tryz.func135,Tryz.ntmps135
 go_wp2_with fail
 go_ret
 exact ⟨rfl,rfl⟩
set_option maxHeartbeats 1000000 in
theorem Zdv (n e:Int) (he:(e !=0)=true) (w:World):Calls Tryz.prog 135 #[.int .i64 n,.int .i64 e] w fun en w'=>en= .panicked (Zdd e)/\w=w':=by
 go_enter Tryz.func135,Tryz.ntmps135
 go_wp2_with fail
 exact ⟨rfl,rfl,rfl⟩
theorem EvAt.cell0 {w:World} {X:Nat} {x:Ev} (h:EvAt w X x):w.cell? ⟨X,0,none⟩=some (.int .i64 x.has):=by
 obtain ⟨M,h1,h2⟩:=h
 rw [cell_of_row w X 0 _ _ _ h1];rfl
theorem EvAt.cell {w:World} {X:Nat} {x:Ev} (h:EvAt w X x) (hx:x.ok) (a:Nat) (ha:a<16):w.cell? ⟨X,1+a,none⟩=some (.int .i64 (x.v.getD a 0)):=by
 obtain ⟨M,h1,h2⟩:=h
 have h3:=x.cell hx a ha
 have hl:1+a<x.cells.length:=(List.getElem?_eq_some_iff.1 h3).1
 rw [cell_of_row w X (1+a) _ _ _ h1,List.getElem?_toArray,List.getElem?_append_left hl]
 exact h3
theorem EvAt.frame {w:World} {X:Nat} {x:Ev} (h:EvAt w X x) (hx:x.ok):∃M,w.cell? ⟨X,17,none⟩=some (.map (some M))/\w.heap[M]? =some (.map (Zy5 X) 9):=by
 obtain ⟨M,h1,h2⟩:=h
 refine ⟨M,?_,h2⟩
 have hl:x.cells.length=17:=by simp [Ev.cells,hx.1]
 rw [cell_of_row w X 17 _ _ _ h1]
 simp [hl]
set_option maxHeartbeats 1000000 in
theorem Zt2 (a:Int) (X:Nat) (w:World) (ha:a<0\/16<=a):
 Calls Tryz.prog 72 #[.pointer (some ⟨X,0,none⟩),.int .i64 a] w fun en w'=>en= .panicked (Zdd 1)/\w=w':=by
 rcases ha with h|h
 all_goals
  go_enter Tryz.func72,Tryz.ntmps72
  go_wp2_with fail
  exact ⟨rfl,rfl,rfl⟩
set_option maxHeartbeats 1000000 in
theorem Zo5 (x:Ev) (n X:Nat) (w:World) (hx:x.ok) (hX:EvAt w X x) (hn:n<16):
 Calls Tryz.prog 72 #[.pointer (some ⟨X,0,none⟩),.int .i64 n] w fun en w'=>Outc (Wf x n) en/\Ext w w':=by
 have h0:=hX.cell0
 have h1:=hX.cell hx n hn
 generalize hy:x.v.getD n 0=y at*
 have hL:Wf x n=if !bitF x.has n then (0,181) else if inR y then (y,0) else (0,3):=by unfold Wf;rw [hy]
 generalize Wf x n=r at*
 have HL:=Lib.hid hL
 have hi1:(0:Int)<=(n:Int):=by omega
 have hi2:(n:Int)<16:=by omega
 clear hL hy hX
 have hbit:(bits .and .i64 x.has (wrap64 (2^n))==0)= !bitF x.has n:=by
  have hp:(2:Nat)^n<=2^15:=Nat.pow_le_pow_right (by omega) (by omega)
  have e:wrap64 ((2:Int)^n)=((2^n:Nat):Int):=by
   have:((2:Int)^n)=((2^n:Nat):Int):=by simp
   rw [this]
   generalize (2:Nat)^n=t at*
   exact IntWalk.wrap64_in _ ⟨by omega,by omega⟩
  rw [e,Z4v x.has n (by omega),bitF,Bool.eq_iff_iff]
  have:((2:Int)^n)=((2^n:Nat):Int):=by simp
  rw [this]
  simp only [Bool.not_eq_true',decide_eq_true_eq,decide_eq_false_iff_not]
  omega
 have hd1:decide ((n:Int)<0)=false:=by simp
 have hd2:decide (16<=(n:Int))=false:=by simp;omega
 cases hb:bitF x.has n
 · rw [hb] at hbit HL
   have HB:=Lib.hid hbit
   clear hbit hb
   go_enter Tryz.func72,Tryz.ntmps72
   go_wp2_with fail
   go_quiet (fail)
   rw [HB.out]
   go_wp2_with fail
   exact ⟨rfl,.inr ⟨by rw [HL.out];simp,by rw [HL.out];rfl⟩,(Ext.refl _).drewN _⟩
 · rw [hb] at hbit HL
   have HB:=Lib.hid hbit
   clear hbit hb
   have hy3:y< -9007199254740992\/9007199254740992<y\/(-9007199254740992<=y/\y<=9007199254740992):=by omega
   rcases hy3 with h|h|⟨g1,g2⟩
   · have hi:inR y=false:=inR_not.2 (by omega)
     rw [hi] at HL
     clear hi
     go_enter Tryz.func72,Tryz.ntmps72
     go_wp2_with fail
     go_quiet (fail)
     rw [HB.out]
     go_wp2_with fail
     exact ⟨rfl,.inr ⟨by rw [HL.out];simp,by rw [HL.out];rfl⟩,(Ext.refl _).drewN _⟩
   · have hi:inR y=false:=inR_not.2 (by omega)
     rw [hi] at HL
     clear hi
     go_enter Tryz.func72,Tryz.ntmps72
     go_wp2_with fail
     go_quiet (fail)
     rw [HB.out]
     go_wp2_with fail
     exact ⟨rfl,.inr ⟨by rw [HL.out];simp,by rw [HL.out];rfl⟩,(Ext.refl _).drewN _⟩
   · have hi:inR y=true:=inR_iff.2 ⟨g1,g2⟩
     rw [hi] at HL
     clear hi
     go_enter Tryz.func72,Tryz.ntmps72
     go_wp2_with fail
     go_quiet (fail)
     rw [HB.out]
     go_wp2_with fail
     go_ret
     exact ⟨.inl ⟨by rw [HL.out];rfl,by rw [HL.out];rfl⟩,(Ext.refl _).drewN _⟩
end
section
open Go.RowKit
def Zds (p q:Int×Int) (en:Ending):Prop:=
 (p.2≠0/\en= .panicked (Zdd p.2))\/(p.2=0/\q.2≠0/\en= .panicked (Zdd q.2))\/(p.2=0/\q.2=0/\en= .returned (.tuple #[.int .i64 p.1,.int .i64 q.1]))
def comb (p q:Int×Int) (f:Int->Int->Int×Int):Int×Int:=if p.2≠0 then (0,p.2) else if q.2≠0 then (0,q.2) else f p.1 q.1
theorem Zg8 {p q:Int×Int} {f:Int->Int->Int×Int} (h:p.2≠0):comb p q f=(0,p.2):=if_pos h
theorem Zg9 {p q:Int×Int} {f:Int->Int->Int×Int} (h:p.2=0) (h':q.2≠0):comb p q f=(0,q.2):=by
 unfold comb;rw [if_neg (by simpa using h),if_pos h']
theorem Zc5 {p q:Int×Int} {f:Int->Int->Int×Int} (h:p.2=0) (h':q.2=0):comb p q f=f p.1 q.1:=by
 unfold comb;rw [if_neg (by simpa using h),if_neg (by simpa using h')]
set_option maxHeartbeats 1000000 in
theorem Z10 (X b o n cap:Nat) (c0 c1:List Value) (p q:Int×Int) (w:World) (hn:2<=n) (hl0:Hid (c0.length=7)) (hl1:Hid (c1.length=7))
 (hr0:w.rangeAt b o c0) (hr1:w.rangeAt b (o+7) c1)
 (h0:Hid (∀W,Ext w W->Calls Tryz.prog 75 #[.pointer (some ⟨X,0,none⟩),.agg c0.toArray] W fun en w'=>Outc p en/\Ext W w'))
 (h1:Hid (∀W,Ext w W->Calls Tryz.prog 75 #[.pointer (some ⟨X,0,none⟩),.agg c1.toArray] W fun en w'=>Outc q en/\Ext W w')):
 Calls Tryz.prog 137 #[.pointer (some ⟨X,0,none⟩),.slice (some ⟨b,o,none⟩) n cap] w fun en w'=>Zds p q en/\Ext w w':=by
 have hn0:0<n:=by omega
 have hn1:(1:Int)<(n:Int):=by omega
 go_enter Tryz.func137,Tryz.ntmps137
 go_wp2_with (refine wpList_load_mid rfl 52 _ rfl b o rfl c0 _ hr0 Tryz.underlying52 rfl (by rw [hl0.out];exact Y2) ?_)
 refine (h0.out _ (Ext.refl _)).mono ?_
 rintro e1 w1 ⟨⟨hz,rfl⟩|⟨hz,rfl⟩,hx1⟩
 · have HZ:=Lib.hid hz
   clear hz
   have hr2:=hx1.range hr1
   go_wp2_with (refine wpList_load_mid rfl 52 _ rfl b (o+7) rfl c1 _ hr2 Tryz.underlying52 rfl (by rw [hl1.out];exact Y2) ?_)
   refine (h1.out _ hx1).mono ?_
   rintro e2 w2 ⟨⟨hz,rfl⟩|⟨hz,rfl⟩,hx2⟩
   · have HY:=Lib.hid hz
     clear hz
     go_wp2_with fail
     go_ret2
     exact ⟨.inr (.inr ⟨HZ.out,HY.out,rfl⟩),hx1.trans hx2⟩
   · have HY:=Lib.hid hz
     clear hz
     go_wp2_with fail
     exact ⟨rfl,.inr (.inl ⟨HZ.out,HY.out,rfl⟩),hx1.trans hx2⟩
 · have HZ:=Lib.hid hz
   clear hz
   go_wp2_with fail
   exact ⟨rfl,.inl ⟨HZ.out,rfl⟩,hx1⟩
set_option maxHeartbeats 1000000 in
theorem Z11 (X b o n cap:Nat) (p q:Int×Int) (w:World)
 (hb:Hid (∀W,Ext w W->Calls Tryz.prog 137 #[.pointer (some ⟨X,0,none⟩),.slice (some ⟨b,o,none⟩) n cap] W fun en w'=>Zds p q en/\Ext W w')):
 Calls Tryz.prog 104 #[.pointer (some ⟨X,0,none⟩),.slice (some ⟨b,o,none⟩) n cap] w fun en w'=>Outc (comb p q addF) en/\Ext w w':=by
 obtain ⟨r,hr⟩:∃r,comb p q addF=r:=⟨_,rfl⟩
 rw [hr]
 have HR:=Lib.hid hr
 clear hr
 go_enter Tryz.func104,Tryz.ntmps104
 go_wp2_with fail
 refine (hb.out _ (Ext.refl _)).mono ?_
 rintro e1 w1 ⟨⟨h1,rfl⟩|⟨h1,h2,rfl⟩|⟨h1,h2,rfl⟩,hx1⟩
 · have H1:=Lib.hid h1
   clear h1
   go_wp2_with fail
   exact ⟨rfl,.inr (by rw [<-HR.out,Zg8 H1.out];exact ⟨H1.out,rfl⟩),hx1⟩
 · have H1:=Lib.hid h1
   have H2:=Lib.hid h2
   clear h1 h2
   go_wp2_with fail
   exact ⟨rfl,.inr (by rw [<-HR.out,Zg9 H1.out H2.out];exact ⟨H2.out,rfl⟩),hx1⟩
 · have H1:=Lib.hid h1
   have H2:=Lib.hid h2
   have hr:r=addF p.1 q.1:=by rw [<-HR.out,Zc5 H1.out H2.out]
   have HR2:=Lib.hid hr
   clear h1 h2 hr HR
   go_wp2_with fail
   refine (Z5h _ _ _).mono ?_
   rw [<-HR2.out]
   rintro e2 w2 ⟨rfl,hx2⟩
   go_wp2_with fail
   by_cases hz:r.2=0
   · rw [hz]
     refine (Zhf _ _).mono ?_
     have HZ:=Lib.hid hz
     clear hz
     rintro e3 w3 ⟨rfl,rfl⟩
     go_wp2_with fail
     go_ret
     exact ⟨.inl ⟨HZ.out,rfl⟩,hx1.trans hx2⟩
   · refine (Zdv _ _ (by rw [bne_iff_ne];exact hz) _).mono ?_
     have HZ:=Lib.hid hz
     clear hz
     rintro e3 w3 ⟨rfl,rfl⟩
     go_wp2_with fail
     exact ⟨rfl,.inr ⟨HZ.out,rfl⟩,hx1.trans hx2⟩
set_option maxHeartbeats 1000000 in
theorem Z12 (X b o n cap:Nat) (p q:Int×Int) (w:World)
 (hb:Hid (∀W,Ext w W->Calls Tryz.prog 137 #[.pointer (some ⟨X,0,none⟩),.slice (some ⟨b,o,none⟩) n cap] W fun en w'=>Zds p q en/\Ext W w')):
 Calls Tryz.prog 105 #[.pointer (some ⟨X,0,none⟩),.slice (some ⟨b,o,none⟩) n cap] w fun en w'=>Outc (comb p q subF) en/\Ext w w':=by
 obtain ⟨r,hr⟩:∃r,comb p q subF=r:=⟨_,rfl⟩
 rw [hr]
 have HR:=Lib.hid hr
 clear hr
 go_enter Tryz.func105,Tryz.ntmps105
 go_wp2_with fail
 refine (hb.out _ (Ext.refl _)).mono ?_
 rintro e1 w1 ⟨⟨h1,rfl⟩|⟨h1,h2,rfl⟩|⟨h1,h2,rfl⟩,hx1⟩
 · have H1:=Lib.hid h1
   clear h1
   go_wp2_with fail
   exact ⟨rfl,.inr (by rw [<-HR.out,Zg8 H1.out];exact ⟨H1.out,rfl⟩),hx1⟩
 · have H1:=Lib.hid h1
   have H2:=Lib.hid h2
   clear h1 h2
   go_wp2_with fail
   exact ⟨rfl,.inr (by rw [<-HR.out,Zg9 H1.out H2.out];exact ⟨H2.out,rfl⟩),hx1⟩
 · have H1:=Lib.hid h1
   have H2:=Lib.hid h2
   have hr:r=subF p.1 q.1:=by rw [<-HR.out,Zc5 H1.out H2.out]
   have HR2:=Lib.hid hr
   clear h1 h2 hr HR
   go_wp2_with fail
   refine (Z5i _ _ _).mono ?_
   rw [<-HR2.out]
   rintro e2 w2 ⟨rfl,hx2⟩
   go_wp2_with fail
   by_cases hz:r.2=0
   · rw [hz]
     refine (Zhf _ _).mono ?_
     have HZ:=Lib.hid hz
     clear hz
     rintro e3 w3 ⟨rfl,rfl⟩
     go_wp2_with fail
     go_ret
     exact ⟨.inl ⟨HZ.out,rfl⟩,hx1.trans hx2⟩
   · refine (Zdv _ _ (by rw [bne_iff_ne];exact hz) _).mono ?_
     have HZ:=Lib.hid hz
     clear hz
     rintro e3 w3 ⟨rfl,rfl⟩
     go_wp2_with fail
     exact ⟨rfl,.inr ⟨HZ.out,rfl⟩,hx1.trans hx2⟩
set_option maxHeartbeats 1000000 in
theorem Z13 (X b o n cap:Nat) (p q:Int×Int) (w:World)
 (hb:Hid (∀W,Ext w W->Calls Tryz.prog 137 #[.pointer (some ⟨X,0,none⟩),.slice (some ⟨b,o,none⟩) n cap] W fun en w'=>Zds p q en/\Ext W w')):
 Calls Tryz.prog 106 #[.pointer (some ⟨X,0,none⟩),.slice (some ⟨b,o,none⟩) n cap] w fun en w'=>Outc (comb p q mulF) en/\Ext w w':=by
 obtain ⟨r,hr⟩:∃r,comb p q mulF=r:=⟨_,rfl⟩
 rw [hr]
 have HR:=Lib.hid hr
 clear hr
 go_enter Tryz.func106,Tryz.ntmps106
 go_wp2_with fail
 refine (hb.out _ (Ext.refl _)).mono ?_
 rintro e1 w1 ⟨⟨h1,rfl⟩|⟨h1,h2,rfl⟩|⟨h1,h2,rfl⟩,hx1⟩
 · have H1:=Lib.hid h1
   clear h1
   go_wp2_with fail
   exact ⟨rfl,.inr (by rw [<-HR.out,Zg8 H1.out];exact ⟨H1.out,rfl⟩),hx1⟩
 · have H1:=Lib.hid h1
   have H2:=Lib.hid h2
   clear h1 h2
   go_wp2_with fail
   exact ⟨rfl,.inr (by rw [<-HR.out,Zg9 H1.out H2.out];exact ⟨H2.out,rfl⟩),hx1⟩
 · have H1:=Lib.hid h1
   have H2:=Lib.hid h2
   have hr:r=mulF p.1 q.1:=by rw [<-HR.out,Zc5 H1.out H2.out]
   have HR2:=Lib.hid hr
   clear h1 h2 hr HR
   go_wp2_with fail
   refine (Z5j _ _ _).mono ?_
   rw [<-HR2.out]
   rintro e2 w2 ⟨rfl,hx2⟩
   go_wp2_with fail
   by_cases hz:r.2=0
   · rw [hz]
     refine (Zhf _ _).mono ?_
     have HZ:=Lib.hid hz
     clear hz
     rintro e3 w3 ⟨rfl,rfl⟩
     go_wp2_with fail
     go_ret
     exact ⟨.inl ⟨HZ.out,rfl⟩,hx1.trans hx2⟩
   · refine (Zdv _ _ (by rw [bne_iff_ne];exact hz) _).mono ?_
     have HZ:=Lib.hid hz
     clear hz
     rintro e3 w3 ⟨rfl,rfl⟩
     go_wp2_with fail
     exact ⟨rfl,.inr ⟨HZ.out,rfl⟩,hx1.trans hx2⟩
set_option maxHeartbeats 1000000 in
theorem Zta (X b o n cap:Nat) (p q:Int×Int) (w:World)
 (hb:Hid (∀W,Ext w W->Calls Tryz.prog 137 #[.pointer (some ⟨X,0,none⟩),.slice (some ⟨b,o,none⟩) n cap] W fun en w'=>Zds p q en/\Ext W w')):
 Calls Tryz.prog 107 #[.pointer (some ⟨X,0,none⟩),.slice (some ⟨b,o,none⟩) n cap] w fun en w'=>Outc (comb p q fun a b=>(min a b,0)) en/\Ext w w':=by
 obtain ⟨r,hr⟩:∃r,comb p q (fun a b=>(min a b,0))=r:=⟨_,rfl⟩
 rw [hr]
 have HR:=Lib.hid hr
 clear hr
 go_enter Tryz.func107,Tryz.ntmps107
 go_wp2_with fail
 refine (hb.out _ (Ext.refl _)).mono ?_
 rintro e1 w1 ⟨⟨h1,rfl⟩|⟨h1,h2,rfl⟩|⟨h1,h2,rfl⟩,hx1⟩
 · have H1:=Lib.hid h1
   clear h1
   go_wp2_with fail
   exact ⟨rfl,.inr (by rw [<-HR.out,Zg8 H1.out];exact ⟨H1.out,rfl⟩),hx1⟩
 · have H1:=Lib.hid h1
   have H2:=Lib.hid h2
   clear h1 h2
   go_wp2_with fail
   exact ⟨rfl,.inr (by rw [<-HR.out,Zg9 H1.out H2.out];exact ⟨H2.out,rfl⟩),hx1⟩
 · have H1:=Lib.hid h1
   have H2:=Lib.hid h2
   have hr:r=(min p.1 q.1,0):=by rw [<-HR.out,Zc5 H1.out H2.out]
   have HR2:=Lib.hid hr
   clear h1 h2 hr HR
   go_wp2_with fail
   all_goals go_ret
   all_goals exact ⟨.inl ⟨by rw [HR2.out],by rw [HR2.out];exact Vf (by omega)⟩,hx1⟩
set_option maxHeartbeats 1000000 in
theorem Zi3 (X b o n cap:Nat) (p q:Int×Int) (w:World)
 (hb:Hid (∀W,Ext w W->Calls Tryz.prog 137 #[.pointer (some ⟨X,0,none⟩),.slice (some ⟨b,o,none⟩) n cap] W fun en w'=>Zds p q en/\Ext W w')):
 Calls Tryz.prog 108 #[.pointer (some ⟨X,0,none⟩),.slice (some ⟨b,o,none⟩) n cap] w fun en w'=>Outc (comb p q fun a b=>(max a b,0)) en/\Ext w w':=by
 obtain ⟨r,hr⟩:∃r,comb p q (fun a b=>(max a b,0))=r:=⟨_,rfl⟩
 rw [hr]
 have HR:=Lib.hid hr
 clear hr
 go_enter Tryz.func108,Tryz.ntmps108
 go_wp2_with fail
 refine (hb.out _ (Ext.refl _)).mono ?_
 rintro e1 w1 ⟨⟨h1,rfl⟩|⟨h1,h2,rfl⟩|⟨h1,h2,rfl⟩,hx1⟩
 · have H1:=Lib.hid h1
   clear h1
   go_wp2_with fail
   exact ⟨rfl,.inr (by rw [<-HR.out,Zg8 H1.out];exact ⟨H1.out,rfl⟩),hx1⟩
 · have H1:=Lib.hid h1
   have H2:=Lib.hid h2
   clear h1 h2
   go_wp2_with fail
   exact ⟨rfl,.inr (by rw [<-HR.out,Zg9 H1.out H2.out];exact ⟨H2.out,rfl⟩),hx1⟩
 · have H1:=Lib.hid h1
   have H2:=Lib.hid h2
   have hr:r=(max p.1 q.1,0):=by rw [<-HR.out,Zc5 H1.out H2.out]
   have HR2:=Lib.hid hr
   clear h1 h2 hr HR
   go_wp2_with fail
   all_goals go_ret
   all_goals exact ⟨.inl ⟨by rw [HR2.out],by rw [HR2.out];exact Vf (by omega)⟩,hx1⟩
set_option maxHeartbeats 1000000 in
theorem Zbb (X b o n cap:Nat) (p q:Int×Int) (m:Int) (w:World)
 (hb:Hid (∀W,Ext w W->Calls Tryz.prog 137 #[.pointer (some ⟨X,0,none⟩),.slice (some ⟨b,o,none⟩) n cap] W fun en w'=>Zds p q en/\Ext W w')):
 Calls Tryz.prog 140 #[.pointer (some ⟨X,0,none⟩),.slice (some ⟨b,o,none⟩) n cap,.int .i64 m] w fun en w'=>Outc (comb p q fun a b=>divF a b m) en/\Ext w w':=by
 obtain ⟨r,hr⟩:∃r,comb p q (fun a b=>divF a b m)=r:=⟨_,rfl⟩
 rw [hr]
 have HR:=Lib.hid hr
 clear hr
 go_enter Tryz.func140,Tryz.ntmps140
 go_wp2_with fail
 refine (hb.out _ (Ext.refl _)).mono ?_
 rintro e1 w1 ⟨⟨h1,rfl⟩|⟨h1,h2,rfl⟩|⟨h1,h2,rfl⟩,hx1⟩
 · have H1:=Lib.hid h1
   clear h1
   go_wp2_with fail
   exact ⟨rfl,.inr (by rw [<-HR.out,Zg8 H1.out];exact ⟨H1.out,rfl⟩),hx1⟩
 · have H1:=Lib.hid h1
   have H2:=Lib.hid h2
   clear h1 h2
   go_wp2_with fail
   exact ⟨rfl,.inr (by rw [<-HR.out,Zg9 H1.out H2.out];exact ⟨H2.out,rfl⟩),hx1⟩
 · have H1:=Lib.hid h1
   have H2:=Lib.hid h2
   have hr:r=divF p.1 q.1 m:=by rw [<-HR.out,Zc5 H1.out H2.out]
   have HR2:=Lib.hid hr
   clear h1 h2 hr HR
   go_wp2_with fail
   refine (Z5k _ _ _ _).mono ?_
   rw [<-HR2.out]
   rintro e2 w2 ⟨rfl,hx2⟩
   go_wp2_with fail
   by_cases hz:r.2=0
   · rw [hz]
     refine (Zhf _ _).mono ?_
     have HZ:=Lib.hid hz
     clear hz
     rintro e3 w3 ⟨rfl,rfl⟩
     go_wp2_with fail
     go_ret
     exact ⟨.inl ⟨HZ.out,rfl⟩,hx1.trans hx2⟩
   · refine (Zdv _ _ (by rw [bne_iff_ne];exact hz) _).mono ?_
     have HZ:=Lib.hid hz
     clear hz
     rintro e3 w3 ⟨rfl,rfl⟩
     go_wp2_with fail
     exact ⟨rfl,.inr ⟨HZ.out,rfl⟩,hx1.trans hx2⟩
set_option maxHeartbeats 1000000 in
theorem Zyf (X b o n cap:Nat) (p q:Int×Int) (w:World)
 (hb:Hid (∀W,Ext w W->Calls Tryz.prog 137 #[.pointer (some ⟨X,0,none⟩),.slice (some ⟨b,o,none⟩) n cap] W fun en w'=>Zds p q en/\Ext W w')):
 Calls Tryz.prog 109 #[.pointer (some ⟨X,0,none⟩),.slice (some ⟨b,o,none⟩) n cap] w fun en w'=>Outc (comb p q fun a b=>divF a b 8) en/\Ext w w':=by
 obtain ⟨r,hr⟩:∃r,comb p q (fun a b=>divF a b 8)=r:=⟨_,rfl⟩
 have hd:=Zbb X b o n cap p q 8 w hb
 rw [hr] at hd⊢
 have HD:=Lib.hid hd
 clear hr hd
 go_enter Tryz.func109,Tryz.ntmps109
 go_wp2_with fail
 refine HD.out.mono ?_
 rintro e1 w1 ⟨⟨h1,rfl⟩|⟨h1,rfl⟩,hx1⟩
 · have H1:=Lib.hid h1
   clear h1
   go_wp2_with fail
   go_ret
   exact ⟨.inl ⟨H1.out,rfl⟩,hx1⟩
 · have H1:=Lib.hid h1
   clear h1
   go_wp2_with fail
   exact ⟨rfl,.inr ⟨H1.out,rfl⟩,hx1⟩
set_option maxHeartbeats 1000000 in
theorem Z7c (X b o n cap:Nat) (p q:Int×Int) (w:World)
 (hb:Hid (∀W,Ext w W->Calls Tryz.prog 137 #[.pointer (some ⟨X,0,none⟩),.slice (some ⟨b,o,none⟩) n cap] W fun en w'=>Zds p q en/\Ext W w')):
 Calls Tryz.prog 110 #[.pointer (some ⟨X,0,none⟩),.slice (some ⟨b,o,none⟩) n cap] w fun en w'=>Outc (comb p q fun a b=>divF a b 9) en/\Ext w w':=by
 obtain ⟨r,hr⟩:∃r,comb p q (fun a b=>divF a b 9)=r:=⟨_,rfl⟩
 have hd:=Zbb X b o n cap p q 9 w hb
 rw [hr] at hd⊢
 have HD:=Lib.hid hd
 clear hr hd
 go_enter Tryz.func110,Tryz.ntmps110
 go_wp2_with fail
 refine HD.out.mono ?_
 rintro e1 w1 ⟨⟨h1,rfl⟩|⟨h1,rfl⟩,hx1⟩
 · have H1:=Lib.hid h1
   clear h1
   go_wp2_with fail
   go_ret
   exact ⟨.inl ⟨H1.out,rfl⟩,hx1⟩
 · have H1:=Lib.hid h1
   clear h1
   go_wp2_with fail
   exact ⟨rfl,.inr ⟨H1.out,rfl⟩,hx1⟩
set_option maxHeartbeats 1000000 in
theorem Zyg (X b o n cap:Nat) (p q:Int×Int) (w:World)
 (hb:Hid (∀W,Ext w W->Calls Tryz.prog 137 #[.pointer (some ⟨X,0,none⟩),.slice (some ⟨b,o,none⟩) n cap] W fun en w'=>Zds p q en/\Ext W w')):
 Calls Tryz.prog 111 #[.pointer (some ⟨X,0,none⟩),.slice (some ⟨b,o,none⟩) n cap] w fun en w'=>Outc (comb p q fun a b=>divF a b 10) en/\Ext w w':=by
 obtain ⟨r,hr⟩:∃r,comb p q (fun a b=>divF a b 10)=r:=⟨_,rfl⟩
 have hd:=Zbb X b o n cap p q 10 w hb
 rw [hr] at hd⊢
 have HD:=Lib.hid hd
 clear hr hd
 go_enter Tryz.func111,Tryz.ntmps111
 go_wp2_with fail
 refine HD.out.mono ?_
 rintro e1 w1 ⟨⟨h1,rfl⟩|⟨h1,rfl⟩,hx1⟩
 · have H1:=Lib.hid h1
   clear h1
   go_wp2_with fail
   go_ret
   exact ⟨.inl ⟨H1.out,rfl⟩,hx1⟩
 · have H1:=Lib.hid h1
   clear h1
   go_wp2_with fail
   exact ⟨rfl,.inr ⟨H1.out,rfl⟩,hx1⟩
set_option maxHeartbeats 1000000 in
theorem Zor (X b o n cap:Nat) (p q p2 p3:Int×Int) (c2 c3:List Value) (w:World) (hn:4<=n) (hl2:Hid (c2.length=7)) (hl3:Hid (c3.length=7))
 (hr2:w.rangeAt b (o+14) c2) (hr3:w.rangeAt b (o+21) c3)
 (hb:Hid (∀W,Ext w W->Calls Tryz.prog 137 #[.pointer (some ⟨X,0,none⟩),.slice (some ⟨b,o,none⟩) n cap] W fun en w'=>Zds p q en/\Ext W w'))
 (h2:Hid (∀W,Ext w W->Calls Tryz.prog 75 #[.pointer (some ⟨X,0,none⟩),.agg c2.toArray] W fun en w'=>Outc p2 en/\Ext W w'))
 (h3:Hid (∀W,Ext w W->Calls Tryz.prog 75 #[.pointer (some ⟨X,0,none⟩),.agg c3.toArray] W fun en w'=>Outc p3 en/\Ext W w')):
 Calls Tryz.prog 112 #[.pointer (some ⟨X,0,none⟩),.slice (some ⟨b,o,none⟩) n cap] w fun en w'=>
  Outc (if p.2≠0 then (0,p.2) else if q.2≠0 then (0,q.2) else if p.1<q.1 then p2 else p3) en/\Ext w w':=by
 obtain ⟨r,hr⟩:∃r,(if p.2≠0 then (0,p.2) else if q.2≠0 then (0,q.2) else if p.1<q.1 then p2 else p3)=r:=⟨_,rfl⟩
 rw [hr]
 have HR:=Lib.hid hr
 clear hr
 have hn2:(2:Int)<(n:Int):=by omega
 have hn3:(3:Int)<(n:Int):=by omega
 go_enter Tryz.func112,Tryz.ntmps112
 go_wp2_with fail
 refine (hb.out _ (Ext.refl _)).mono ?_
 rintro e1 w1 ⟨⟨h1,rfl⟩|⟨h1,h1',rfl⟩|⟨h1,h1',rfl⟩,hx1⟩
 · have H1:=Lib.hid h1
   clear h1
   go_wp2_with fail
   exact ⟨rfl,.inr (by rw [<-HR.out,if_pos H1.out];exact ⟨H1.out,rfl⟩),hx1⟩
 · have H1:=Lib.hid h1
   have H2:=Lib.hid h1'
   clear h1 h1'
   go_wp2_with fail
   exact ⟨rfl,.inr (by rw [<-HR.out,if_neg (by simpa using H1.out),if_pos H2.out];exact ⟨H2.out,rfl⟩),hx1⟩
 · have hr:r=if p.1<q.1 then p2 else p3:=by rw [<-HR.out,if_neg (by simpa using h1),if_neg (by simpa using h1')]
   replace hr2:=hx1.range hr2
   replace hr3:=hx1.range hr3
   obtain ⟨p1,pe⟩:=p
   obtain ⟨q1,qe⟩:=q
   by_cases hlt:p1<q1
   · rw [if_pos hlt] at hr
     subst hr
     clear h1 h1' HR
     go_wp2_with (refine wpList_load_mid rfl 52 _ rfl b (o+14) rfl c2 _ hr2 Tryz.underlying52 rfl (by rw [hl2.out];exact Y2) ?_)
     refine (h2.out _ hx1).mono ?_
     rintro e2 w2 ⟨⟨hz,rfl⟩|⟨hz,rfl⟩,hx2⟩
     · have HZ:=Lib.hid hz
       clear hz
       go_wp2_with fail
       go_ret
       exact ⟨.inl ⟨HZ.out,rfl⟩,hx1.trans hx2⟩
     · have HZ:=Lib.hid hz
       clear hz
       go_wp2_with fail
       exact ⟨rfl,.inr ⟨HZ.out,rfl⟩,hx1.trans hx2⟩
   · rw [if_neg hlt] at hr
     subst hr
     clear h1 h1' HR
     go_wp2_with (refine wpList_load_mid rfl 52 _ rfl b (o+21) rfl c3 _ hr3 Tryz.underlying52 rfl (by rw [hl3.out];exact Y2) ?_)
     refine (h3.out _ hx1).mono ?_
     rintro e2 w2 ⟨⟨hz,rfl⟩|⟨hz,rfl⟩,hx2⟩
     · have HZ:=Lib.hid hz
       clear hz
       go_wp2_with fail
       go_ret
       exact ⟨.inl ⟨HZ.out,rfl⟩,hx1.trans hx2⟩
     · have HZ:=Lib.hid hz
       clear hz
       go_wp2_with fail
       exact ⟨rfl,.inr ⟨HZ.out,rfl⟩,hx1.trans hx2⟩
end
section
open Go.RowKit
theorem EvAt.frame2 {w:World} {X:Nat} {x:Ev} (h:EvAt w X x) (hx:x.ok):∃M,w.cell? ⟨X,17,none⟩=some (.map (some M))/\w.heap[M]? =some (.map (Zy5 X) 9)/\M<w.heap.size:=by
 obtain ⟨M,h1,h2⟩:=h.frame hx
 refine ⟨M,h1,h2,?_⟩
 rcases Nat.lt_or_ge M w.heap.size with h'|h'
 · exact h'
 · rw [Array.getElem?_eq_none h'] at h2;cases h2
set_option maxHeartbeats 4000000 in
theorem Zy4 (x:Ev) (hx:x.ok) (dn:Nat):∀(d:Nat) (cs:List Value) (e:Ex) (X:Nat) (w:World),Xt dn e=true->ExIn w d cs e->EvAt w X x->
 Calls Tryz.prog 75 #[.pointer (some ⟨X,0,none⟩),.agg cs.toArray] w fun en w'=>Outc (Zz dn e x) en/\Ext w w':=by
 induction dn with
 |zero=>intro d cs e X w h;cases h
 |succ dn ih=>
  intro d cs e X w hf he hX
  have hev:Zz (dn+1) e x=if e.op=1 then (e.n,0) else if e.op=2 then Wf x e.n.toNat else
   if (Zz dn (e.l.getD 0 exT0) x).2≠0 then (0,(Zz dn (e.l.getD 0 exT0) x).2) else if (Zz dn (e.l.getD 1 exT0) x).2≠0 then (0,(Zz dn (e.l.getD 1 exT0) x).2) else
   if e.op≠11 then Ul e.op (Zz dn (e.l.getD 0 exT0) x).1 (Zz dn (e.l.getD 1 exT0) x).1 else
   if (Zz dn (e.l.getD 0 exT0) x).1<(Zz dn (e.l.getD 1 exT0) x).1 then Zz dn (e.l.getD 2 exT0) x else Zz dn (e.l.getD 3 exT0) x:=rfl
  generalize Zz (dn+1) e x=r at*
  have HV:=Lib.hid hev
  clear hev
  have hxl:x.cells.length=17:=by simp [Ev.cells,hx.1]
  by_cases h1:e.op=1
  · obtain ⟨A,cap,u0,u1,u2,u3,rfl,_⟩:=he.open_
    have hv:=HV.out
    rw [if_pos h1] at hv
    have HV:=Lib.hid hv
    rw [h1]
    clear hv h1 he ih hX
    go_enter Tryz.func75,Tryz.ntmps75
    go_wp2_with fail
    go_ret
    exact ⟨.inl ⟨by rw [HV.out],by rw [HV.out];rfl⟩,(Ext.refl _).alloc _⟩
  by_cases h2:e.op=2
  · obtain ⟨A,cap,u0,u1,u2,u3,rfl,_⟩:=he.open_
    have hv:=HV.out
    rw [if_neg h1,if_pos h2] at hv
    have hn:=(Zr2 hf h2).2
    obtain ⟨n,hn2⟩:=Int.eq_ofNat_of_zero_le hn.1
    rw [h2]
    rw [hn2] at hv hn⊢
    rw [Int.toNat_natCast] at hv
    have HV:=Lib.hid hv
    have hn3:n<16:=by omega
    have hld:=fun (W:World) (h:Ext w W)=>Zo5 x n X W hx (hX.ext h) hn3
    have HLD:=Lib.hid hld
    clear hv h1 h2 he ih hn2 hn hX hld
    go_enter Tryz.func75,Tryz.ntmps75
    go_wp2_with fail
    refine (HLD.out _ ((Ext.refl _).alloc _)).mono ?_
    rw [<-HV.out]
    rintro e1 w1 ⟨⟨hz,rfl⟩|⟨hz,rfl⟩,hx1⟩
    · have HZ:=Lib.hid hz
      clear hz
      go_wp2_with fail
      go_ret
      exact ⟨.inl ⟨HZ.out,rfl⟩,((Ext.refl _).alloc _).trans hx1⟩
    · have HZ:=Lib.hid hz
      clear hz
      go_wp2_with fail
      exact ⟨rfl,.inr ⟨HZ.out,rfl⟩,((Ext.refl _).alloc _).trans hx1⟩
  obtain ⟨hop3,hop11,hl4,hl2,hfs⟩:=Zr1 hf h1 h2
  have hlen:2<=e.l.length:=by
   by_cases h:e.op=11
   · have:=hl4 h;omega
   · have:=hl2 h;omega
  obtain ⟨b,o,cap,u0,u1,u2,u3,c0,rfl,hcap,hb,hl0,hr0,hE0⟩:=he.nth 0 (by omega)
  obtain ⟨b',o',cap',_,_,_,_,c1,hcs,_,hb1,hl1,hr1,hE1⟩:=he.nth 1 (by omega)
  simp only [List.cons.injEq,Value.int.injEq,Value.slice.injEq,Option.some.injEq,Addr.mk.injEq,true_and,and_true] at hcs
  obtain ⟨_,_,_,_,⟨rfl,rfl⟩,rfl⟩:=hcs
  rw [Nat.zero_mul,Nat.add_zero] at hr0
  rw [Nat.one_mul] at hr1
  have hv:=HV.out
  clear HV
  rw [if_neg h1,if_neg h2] at hv
  have HL0:=Lib.hid hl0
  have HL1:=Lib.hid hl1
  have HC0:Hid (∀W,Ext w W->Calls Tryz.prog 75 #[.pointer (some ⟨X,0,none⟩),.agg c0.toArray] W fun en w'=>Outc (Zz dn (e.l.getD 0 exT0) x) en/\Ext W w'):=
   Lib.hid fun W h=>ih _ _ _ X W (hfs 0 (by omega)) (hE0.ext h) (hX.ext h)
  have HC1:Hid (∀W,Ext w W->Calls Tryz.prog 75 #[.pointer (some ⟨X,0,none⟩),.agg c1.toArray] W fun en w'=>Outc (Zz dn (e.l.getD 1 exT0) x) en/\Ext W w'):=
   Lib.hid fun W h=>ih _ _ _ X W (hfs 1 (by omega)) (hE1.ext h) (hX.ext h)
  have hboth:Hid (∀W,Ext w W->∀W',Ext W W'->Calls Tryz.prog 137 #[.pointer (some ⟨X,0,none⟩),.slice (some ⟨b,o,none⟩) e.l.length cap] W' fun en w'=>
   Zds (Zz dn (e.l.getD 0 exT0) x) (Zz dn (e.l.getD 1 exT0) x) en/\Ext W' w'):=
   Lib.hid fun W h W' h'=>Z10 X b o _ cap c0 c1 _ _ W' hlen HL0 HL1 ((h.trans h').range hr0) ((h.trans h').range hr1)
    (Lib.hid fun V hV=>HC0.out V ((h.trans h').trans hV)) (Lib.hid fun V hV=>HC1.out V ((h.trans h').trans hV))
  have hdone:∀(fn:Nat) (i:Nat),(∀args W,(callFunc fn args).run Tryz.prog W= .ok (.enter fn args) W)->(∀W,Ext w W->Calls Tryz.prog fn #[.pointer (some ⟨X,0,none⟩),.slice (some ⟨b,o,none⟩) e.l.length cap] W fun en w'=>Outc r en/\Ext W w')->
   Instr.findNow (.int .i64) (.int .i64 e.op) (Zy5 X).toList 0=some (some (i,.func (.func fn) #[.pointer (some ⟨X,0,none⟩)] #[]))->
   Calls Tryz.prog 75 #[.pointer (some ⟨X,0,none⟩),.agg [.int .i64 e.op,.int .i64 e.n,.int .i64 u0,.int .i64 u1,.int .i64 u2,.int .i64 u3,.slice (some ⟨b,o,none⟩) e.l.length cap].toArray] w fun en w'=>Outc r en/\Ext w w':=by
   intro fn i hcf hcall hfind
   obtain ⟨M,hM1,hM2,hM3⟩:=hX.frame2 hx
   have g1:(e.op==1)=false:=by simpa using h1
   have g2:(e.op==2)=false:=by simpa using h2
   have HF:=Lib.hid hfind
   have HCL:=Lib.hid hcall
   have HM2:=Lib.hid hM2
   clear hv hfind hcall hboth HC0 HC1 HL0 HL1 hr0 hr1 hE0 hE1 hl0 hl1 hfs ih he hX hl2 hl4 hM2 hf h1 h2
   generalize e.op=op at*
   generalize e.n=nn at*
   generalize e.l.length=n at*
   go_enter Tryz.func75,Tryz.ntmps75
   go_wp2_with fail
   generalize hw0:World.alloc _ _=w0
   have hx0:Ext w w0:=by rw [<-hw0];exact (Ext.refl _).alloc _
   have hc6:w0.cell? ⟨w.heap.size,6,none⟩=some (.slice (some ⟨b,o,none⟩) n cap):=by rw [<-hw0];simp [go_sem]
   have hc0:w0.cell? ⟨w.heap.size,0,none⟩=some (.int .i64 op):=by rw [<-hw0];simp [go_sem]
   have hc17:=hx0.cell hM1
   clear hw0
   refine Zi0 [(0,true),(1,true),(2,true),(3,true),(4,true),(5,true),(6,true),(7,true),(8,true),(9,false),(10,true)] (Ext w0) (by kernel_rfl) (by kernel_rfl) (by intro c a w d v h;cases d<;>exact h) (Ext.refl _).drew ?_
   repeat
    (refine ⟨_,?_,rfl,Zi1 (by rfl) (fun w' hS=> ?_),?_⟩
     rotate_left
     · (have g0:=hS.cell hc0;have g6:=hS.cell hc6;have g17:=hS.cell hc17;go_simp;rfl)
     try simp only [Act.put,List.getElem_toArray,List.getElem_cons_zero,List.getElem_cons_succ,List.setIfInBounds_toArray,List.set_cons_zero,List.set_cons_succ])
   refine ⟨_,_,rfl,Zsu (by rfl) _ _ _ rfl _ _ _ _ _ _ _ _ rfl rfl Tryz.underlying159 Tryz.underlying3 ((hx0.block hM3).trans HM2.out) (Nat.lt_of_lt_of_le hM3 hx0.size) HF.out,?_⟩
   try simp only [Act.put,List.getElem_toArray,List.getElem_cons_zero,List.getElem_cons_succ,List.setIfInBounds_toArray,List.set_cons_zero,List.set_cons_succ]
   repeat
    (refine ⟨_,?_,rfl,Zi1 (by rfl) (fun w' hS=> ?_),?_⟩
     rotate_left
     · (have g0:=hS.cell hc0;have g6:=hS.cell hc6;have g17:=hS.cell hc17;go_simp;rfl)
     try simp only [Act.put,List.getElem_toArray,List.getElem_cons_zero,List.getElem_cons_succ,List.setIfInBounds_toArray,List.set_cons_zero,List.set_cons_succ])
   refine ⟨_,rfl,by rfl,?_⟩
   try simp only [List.getElem_toArray,List.getElem_cons_zero,List.getElem_cons_succ]
   go_step
   refine (HCL.out _ hx0.drew).mono ?_
   rintro e1 w1 ⟨⟨hz,rfl⟩|⟨hz,rfl⟩,hx1⟩
   · have HZ:=Lib.hid hz
     clear hz
     refine ⟨(Ext.refl _).drew.trans hx1,?_⟩
     try simp only [Act.put,List.getElem_toArray,List.getElem_cons_zero,List.getElem_cons_succ,List.setIfInBounds_toArray,List.set_cons_zero,List.set_cons_succ]
     repeat
      (refine ⟨_,?_,rfl,Zi1 (by rfl) (fun w' hS=> ?_),?_⟩
       rotate_left
       · (go_simp;rfl)
       try simp only [Act.put,List.getElem_toArray,List.getElem_cons_zero,List.getElem_cons_succ,List.setIfInBounds_toArray,List.set_cons_zero,List.set_cons_succ])
     simp only [Zog]
     go_wp2_with fail
     go_ret
     exact ⟨.inl ⟨HZ.out,rfl⟩,hx0.trans ((Ext.refl _).drew.trans hx1)⟩
   · have HZ:=Lib.hid hz
     clear hz
     go_wp2_with fail
     exact ⟨rfl,.inr ⟨HZ.out,rfl⟩,hx0.trans ((Ext.refl _).drew.trans hx1)⟩
  have hn11:∀f:Int->Int->Int×Int,e.op≠11->(∀a b,Ul e.op a b=f a b)->r=comb (Zz dn (e.l.getD 0 exT0) x) (Zz dn (e.l.getD 1 exT0) x) f:=by
   intro f h hf
   rw [hv,if_pos h,hf]
   rfl
  have hop:e.op=3\/e.op=4\/e.op=5\/e.op=6\/e.op=7\/e.op=8\/e.op=9\/e.op=10\/e.op=11:=by omega
  rcases hop with h|h|h|h|h|h|h|h|h
  · refine hdone 104 0 (fun args W=>by simp [go_sem]) (fun W hW=> ?_) (by rw [h];rfl)
    rw [hn11 (addF) (by omega) (fun a b=>by rw [h];rfl)]
    exact Z11 X b o _ cap _ _ W (Lib.hid fun W' h'=>hboth.out W hW W' h')
  · refine hdone 105 1 (fun args W=>by simp [go_sem]) (fun W hW=> ?_) (by rw [h];rfl)
    rw [hn11 (subF) (by omega) (fun a b=>by rw [h];rfl)]
    exact Z12 X b o _ cap _ _ W (Lib.hid fun W' h'=>hboth.out W hW W' h')
  · refine hdone 106 2 (fun args W=>by simp [go_sem]) (fun W hW=> ?_) (by rw [h];rfl)
    rw [hn11 (mulF) (by omega) (fun a b=>by rw [h];rfl)]
    exact Z13 X b o _ cap _ _ W (Lib.hid fun W' h'=>hboth.out W hW W' h')
  · refine hdone 107 3 (fun args W=>by simp [go_sem]) (fun W hW=> ?_) (by rw [h];rfl)
    rw [hn11 (fun a b=>(min a b,0)) (by omega) (fun a b=>by rw [h];rfl)]
    exact Zta X b o _ cap _ _ W (Lib.hid fun W' h'=>hboth.out W hW W' h')
  · refine hdone 108 4 (fun args W=>by simp [go_sem]) (fun W hW=> ?_) (by rw [h];rfl)
    rw [hn11 (fun a b=>(max a b,0)) (by omega) (fun a b=>by rw [h];rfl)]
    exact Zi3 X b o _ cap _ _ W (Lib.hid fun W' h'=>hboth.out W hW W' h')
  · refine hdone 109 5 (fun args W=>by simp [go_sem]) (fun W hW=> ?_) (by rw [h];rfl)
    rw [hn11 (fun a b=>divF a b 8) (by omega) (fun a b=>by rw [h];rfl)]
    exact Zyf X b o _ cap _ _ W (Lib.hid fun W' h'=>hboth.out W hW W' h')
  · refine hdone 110 6 (fun args W=>by simp [go_sem]) (fun W hW=> ?_) (by rw [h];rfl)
    rw [hn11 (fun a b=>divF a b 9) (by omega) (fun a b=>by rw [h];rfl)]
    exact Z7c X b o _ cap _ _ W (Lib.hid fun W' h'=>hboth.out W hW W' h')
  · refine hdone 111 7 (fun args W=>by simp [go_sem]) (fun W hW=> ?_) (by rw [h];rfl)
    rw [hn11 (fun a b=>divF a b 10) (by omega) (fun a b=>by rw [h];rfl)]
    exact Zyg X b o _ cap _ _ W (Lib.hid fun W' h'=>hboth.out W hW W' h')
  · obtain ⟨b',o',cap',_,_,_,_,c2,hcs,_,_,hl2',hr2,hE2⟩:=he.nth 2 (by omega)
    simp only [List.cons.injEq,Value.int.injEq,Value.slice.injEq,Option.some.injEq,Addr.mk.injEq,true_and,and_true] at hcs
    obtain ⟨_,_,_,_,⟨rfl,rfl⟩,rfl⟩:=hcs
    obtain ⟨b',o',cap',_,_,_,_,c3,hcs,_,_,hl3',hr3,hE3⟩:=he.nth 3 (by omega)
    simp only [List.cons.injEq,Value.int.injEq,Value.slice.injEq,Option.some.injEq,Addr.mk.injEq,true_and,and_true] at hcs
    obtain ⟨_,_,_,_,⟨rfl,rfl⟩,rfl⟩:=hcs
    simp only [Nat.reduceMul] at hr2 hr3
    refine hdone 112 8 (fun args W=>by simp [go_sem]) (fun W hW=> ?_) (by rw [h];rfl)
    rw [hv,if_neg (show ¬(e.op≠11) from fun hh=>hh h)]
    exact Zor X b o _ cap _ _ _ _ c2 c3 W (by omega) (Lib.hid hl2') (Lib.hid hl3') (hW.range hr2) (hW.range hr3) (Lib.hid fun W' h'=>hboth.out W hW W' h')
     (Lib.hid fun W' h'=>ih _ _ _ X W' (hfs 2 (by omega)) (hE2.ext (hW.trans h')) (hX.ext (hW.trans h'))) (Lib.hid fun W' h'=>ih _ _ _ X W' (hfs 3 (by omega)) (hE3.ext (hW.trans h')) (hX.ext (hW.trans h')))
end
section
open Go.RowKit
set_option maxHeartbeats 1000000 in
theorem Vk (p:Addr) (w:World):
 CallsD Tryz.prog 70 #[.pointer (some p)] .returning w fun en u' w'=>en= .returned (.tuple #[])/\u'= .returning/\w=w':=by
 refine callsD_of_wpS Tryz.func70 rfl fun c₀ cs hu=> ?_
 apply wpS_seq
 apply wpS_region
 simp [wpOpsS,go_sem,recoverD,hu,Tryz.ntmps70,Exit.thenS]
 simp only [List.size_toArray,List.length_cons,List.length_nil,Nat.reduceAdd,Nat.reduceSub,Array.replicate_succ,Array.replicate_zero,List.push_toArray,List.append_toArray,List.nil_append,List.cons_append,List.setIfInBounds_toArray,List.set_cons_zero,List.set_cons_succ]
 refine wpS_of_wp ?_
 go_wp2_with fail
 exact ⟨rfl,.returning,by cases c₀;simp_all,_,results_none rfl _ _ _,rfl,rfl,rfl⟩
theorem Zke (v:Value) (w:World):(Instr.typeAssert (.iface 158 v) 20 158 true).run Tryz.prog w= .ok (.tuple #[v,.bool true]) w:=by kernel_rfl
set_option maxHeartbeats 1000000 in
theorem Ui (p:Addr) (x e:Int) (w:World) (hc:w.cell? p=some (.int .i64 x)) (hz:w.frozen? p=false) (hb:p.block<w.heap.size):
 CallsD Tryz.prog 70 #[.pointer (some p)] (.panicking (Zdd e)) w fun en u' w'=>en= .returned (.tuple #[])/\u'= .panicking [{v:=Zt1 e,recovered:=true}]/\
  w'=(w.alloc (.cells #[.int .i64 e] 158)).setCell p (.int .i64 e):=by
 refine callsD_of_wpS Tryz.func70 rfl fun c₀ cs hu=> ?_
 unfold Zdd at hu
 apply wpS_seq
 apply wpS_region
 simp [wpOpsS,go_sem,recoverD,hu,Tryz.ntmps70,Exit.thenS]
 simp only [List.size_toArray,List.length_cons,List.length_nil,Nat.reduceAdd,Nat.reduceSub,Array.replicate_succ,Array.replicate_zero,List.push_toArray,List.append_toArray,List.nil_append,List.cons_append,List.setIfInBounds_toArray,List.set_cons_zero,List.set_cons_succ]
 refine wpS_of_wp ?_
 unfold Zt1
 have hta:=Zke
 have hc':∀o,(w.alloc o).cell? p=some (.int .i64 x):=fun o=>by rw [World.cell?_alloc_lt w o p hb];exact hc
 have hz':∀o,(w.alloc o).frozen? p=false:=fun o=>by rw [World.frozen?_alloc_old w o p (by omega)];exact hz
 go_wp2_with fail
 exact ⟨rfl,_,rfl,_,results_none rfl _ _ _,rfl,rfl,rfl⟩
theorem Uj {P:Program} {fn:Func} {t t':Array Value} {R:Ending->World->Prop} (h:∀w,(results fn t).run P w=(results fn t').run P w):
 ∀(ds:List Deferred) (u:FrameMode) (w:World),Leaves P fn t R ds u w->Leaves P fn t' R ds u w
 | [],.returning,w,⟨v,hv,hR⟩=>⟨v,(h w).symm.trans hv,hR⟩
 | [],.panicking _,w,hh=>hh
 | [],.run,_,hh=>hh.elim
 |d::ds,u,w,⟨h1,fv,cap,f,args,h2,h3,h4⟩=>⟨h1,fv,cap,f,args,h2,h3,h4.mono fun e u' w' hh=>by
  cases e with
  |returned v=>exact Uj h ds _ _ hh
  |panicked c=>exact Uj h ds _ _ hh
  |outgrown=>exact hh⟩
theorem Ze2 {P:Program} {fn:Func} {R:Ending->World->Prop} {c:List PanicEntry} {a:Act} {d:Option Tmp} {v:Value} {w:World}
 (h:∀W,(results fn (a.put d v).tmps).run P W=(results fn a.tmps).run P W) (hq:bodyPostD P fn R (.panic c) (a.put d v) w):bodyPostD P fn R (.panic c) a w:=by
 have:(a.put d v).defers=a.defers:=by cases d<;>rfl
 refine Uj h _ _ _ ?_
 rw [<-this]
 exact hq
set_option maxHeartbeats 1000000 in
theorem Z0d (x:Ev) (d:Nat) (cs:List Value) (e:Ex) (w:World) (he:ExIn w d cs e) (hf:Xt 24 e=false):
 Calls Tryz.prog 42 #[.agg cs.toArray,.agg x.cells.toArray] w fun en w'=>en= .returned (.tuple #[.int .i64 0,.int .i64 1])/\Ext w w':=by
 have hfm:=fun (W:World) (h:Ext w W)=>Zlk 24 d cs e W (by omega) (he.ext h)
 rw [hf] at hfm
 have HF:=Lib.hid hfm
 obtain ⟨A,cap,u0,u1,u2,u3,rfl,_⟩:=he.open_
 clear hfm he
 go_enter_defers Tryz.func42,Tryz.ntmps42
 go_wp2_with fail
 refine (HF.out _ ((((Ext.refl _).alloc _).alloc _).alloc _)).mono ?_
 rintro e1 w1 ⟨rfl,hx1⟩
 have hx:=((((Ext.refl w).alloc _).alloc _).alloc _).trans hx1
 have hc5:=hx1.cell (p:=⟨w.heap.size+1+1,0,none⟩) (v:= .int .i64 0) (by simp [go_sem])
 have hz5:=hx1.frozen_eq (p:=⟨w.heap.size+1+1,0,none⟩) (by simp)
 have hz5':w1.frozen? ⟨w.heap.size+1+1,0,none⟩=false:=by rw [hz5];simp [go_sem]
 clear hx1 hz5
 go_wp2_with fail
 have hsame:(w1.setCell ⟨w.heap.size+1+1,0,none⟩ (.int .i64 1)).cell? ⟨w.heap.size+1+1,0,none⟩=some (.int .i64 1):=World.cell?_setCell_same' _ _ _ (by rw [hc5];rfl)
 exact ⟨.tuple #[.int .i64 0,.int .i64 1],by simp [results,Tryz.results42,go_sem,hsame],rfl,hx.setCell (by simp;omega) _⟩
set_option maxHeartbeats 2000000 in
theorem Zvu (x:Ev) (hxo:x.ok) (d:Nat) (cs:List Value) (e:Ex) (w:World) (he:ExIn w d cs e) (hf:Xt 24 e=true):
 Calls Tryz.prog 42 #[.agg cs.toArray,.agg x.cells.toArray] w fun en w'=>en= .returned (.tuple #[.int .i64 (if (Zz 24 e x).2=0 then (Zz 24 e x).1 else 0),.int .i64 (Zz 24 e x).2])/\Ext w w':=by
 have hfm:=fun (W:World) (h:Ext w W)=>Zlk 24 d cs e W (by omega) (he.ext h)
 rw [hf] at hfm
 have HF:=Lib.hid hfm
 have hev:=fun (X:Nat) (W:World) (h:Ext w W) (hX:EvAt W X x)=>Zy4 x hxo 24 d cs e X W hf (he.ext h) hX
 have HEV:=Lib.hid hev
 have hl7:=he.len
 have hxl:x.cells.length=17:=by simp [Ev.cells,hxo.1]
 have HL7:=Lib.hid hl7
 have HXL:=Lib.hid hxl
 obtain ⟨r,hr⟩:∃r,Zz 24 e x=r:=⟨_,rfl⟩
 rw [hr] at HEV⊢
 clear hfm hev hr hl7 hxl
 obtain ⟨A,cap,u0,u1,u2,u3,rfl,_⟩:=he.open_
 clear he
 go_enter_defers Tryz.func42,Tryz.ntmps42
 go_wp2_with fail
 refine (HF.out _ ((((Ext.refl _).alloc _).alloc _).alloc _)).mono ?_
 rintro e1 w1 ⟨rfl,hx1⟩
 have hx:=((((Ext.refl w).alloc _).alloc _).alloc _).trans hx1
 have hc5:=hx1.cell (p:=⟨w.heap.size+1+1,0,none⟩) (v:= .int .i64 0) (by simp [go_sem])
 have hz5:=hx1.frozen_eq (p:=⟨w.heap.size+1+1,0,none⟩) (by simp)
 have hz5':w1.frozen? ⟨w.heap.size+1+1,0,none⟩=false:=by rw [hz5];simp [go_sem]
 have hsz:=hx1.size
 simp at hsz
 have hr3:w1.rangeAt (w.heap.size+1) 0 x.cells:=hx1.range (by intro j v hv;simp [go_sem,hv])
 have hr2:w1.rangeAt (w.heap.size) 0 [.int .i64 e.op,.int .i64 e.n,.int .i64 u0,.int .i64 u1,.int .i64 u2,.int .i64 u3,.slice A e.l.length cap]:=hx1.range (by intro j v hv;simp [go_sem] at hv⊢;exact hv)
 clear hx1 hz5
 go_wp2_with fail
 refine Zas [(0,true),(2,true),(1,false),(3,false),(4,false),(5,false)] (Below (w.heap.size+2) w1) (by kernel_rfl) (by kernel_rfl) ?_ (Below.refl _ _).drew ?_
 · intro p hp hp2 o ho c a w' v hq
   have hcase:o.dst=some 9\/o.dst=some 11:=by
    simp only [List.mem_cons,List.not_mem_nil,or_false] at hp
    rcases hp with rfl|rfl|rfl|rfl|rfl|rfl
    · simp at ho;subst ho;exact .inl rfl
    · simp at ho;subst ho;exact .inr rfl
    all_goals cases hp2
   have hres:∀(k:Nat) (W:World),k≠4->k≠5->(results Tryz.f42 (a.tmps.setIfInBounds k v)).run Tryz.prog W=(results Tryz.f42 a.tmps).run Tryz.prog W:=by
    intro k W h4 h5
    have e:∀j,j≠k->(a.tmps.setIfInBounds k v)[j]? =a.tmps[j]? :=fun j hj=>by
     simp only [Array.getElem?_setIfInBounds,if_neg (Ne.symm hj)]
    simp only [results,Tryz.results42,List.size_toArray]
    simp [e 4 (Ne.symm h4),e 5 (Ne.symm h5)]
   refine Ze2 (P:=Tryz.prog) (fn:=Tryz.f42) (d:=o.dst) (v:=v) ?_ hq
   intro W
   rcases hcase with h|h<;>rw [h]
   · exact hres 9 W (by omega) (by omega)
   · exact hres 11 W (by omega) (by omega)
 refine ⟨_,_,rfl,yieldsIf_load_mid (by rfl) _ _ rfl (w.heap.size+1) _ rfl x.cells _ (fun W h j v hv=>(h.cell (by simp)).trans (hr3 j v hv)) Tryz.underlying36 rfl (by rw [HXL.out];exact X5),?_⟩
 try simp only [Act.put,List.getElem_toArray,List.getElem_cons_zero,List.getElem_cons_succ,List.setIfInBounds_toArray,List.set_cons_zero,List.set_cons_succ]
 refine ⟨_,_,rfl,yieldsIf_load_mid (by rfl) _ _ rfl (w.heap.size) _ rfl _ _ (fun W h j v hv=>(h.cell (by simp)).trans (hr2 j v hv)) Tryz.underlying52 rfl Y2,?_⟩
 try simp only [Act.put,List.getElem_toArray,List.getElem_cons_zero,List.getElem_cons_succ,List.setIfInBounds_toArray,List.set_cons_zero,List.set_cons_succ]
 refine ⟨_,rfl,by rfl,?_⟩
 try simp only [List.getElem_toArray,List.getElem_cons_zero,List.getElem_cons_succ]
 go_step
 refine (Zje x _ hxo).mono ?_
 rintro e1 w2 ⟨rfl,hx2,hX⟩
 have hx12:Ext w1 w2:=(Ext.refl _).drew.trans hx2
 refine ⟨Below.mono hx12 (by omega),?_⟩
 try simp only [Act.put,List.getElem_toArray,List.getElem_cons_zero,List.getElem_cons_succ,List.setIfInBounds_toArray,List.set_cons_zero,List.set_cons_succ]
 have hcall:=HEV.out _ _ (hx.trans hx12) hX
 have HCALL:=Lib.hid hcall
 clear hcall hX hx2
 generalize w1.drew.heap.size+1=X at*
 refine ⟨_,rfl,by rfl,?_⟩
 try simp only [List.getElem_toArray,List.getElem_cons_zero,List.getElem_cons_succ]
 go_step
 refine HCALL.out.mono ?_
 rintro e1 w3 ⟨⟨hz,rfl⟩|⟨hz,rfl⟩,hx3⟩
 · have HZ:=Lib.hid hz
   clear hz
   have hx13:=hx12.trans hx3
   have hc5':=hx13.cell hc5
   have hz5'':w3.frozen? ⟨w.heap.size+1+1,0,none⟩=false:=by rw [hx13.frozen_eq (by simp;omega)];exact hz5'
   refine ⟨Below.mono hx13 (by omega),?_⟩
   try simp only [Act.put,List.getElem_toArray,List.getElem_cons_zero,List.getElem_cons_succ,List.setIfInBounds_toArray,List.set_cons_zero,List.set_cons_succ]
   refine ⟨_,rfl,by rfl,?_⟩
   try simp only [List.getElem_toArray,List.getElem_cons_zero,List.getElem_cons_succ]
   go_step
   refine ⟨Below.mono hx13 (by omega),?_⟩
   try simp only [Act.put,List.getElem_toArray,List.getElem_cons_zero,List.getElem_cons_succ,List.setIfInBounds_toArray,List.set_cons_zero,List.set_cons_succ]
   refine ⟨_,rfl,by rfl,?_⟩
   try simp only [List.getElem_toArray,List.getElem_cons_zero,List.getElem_cons_succ]
   go_step
   refine ⟨(Below.mono hx13 (by omega)).setCell (by simp) _,?_⟩
   try simp only [Act.put,List.getElem_toArray,List.getElem_cons_zero,List.getElem_cons_succ,List.setIfInBounds_toArray,List.set_cons_zero,List.set_cons_succ]
   simp only [Zog]
   go_wp2_with fail
   have hsame:(w3.setCell ⟨w.heap.size+1+1,0,none⟩ (.int .i64 0)).cell? ⟨w.heap.size+1+1,0,none⟩=some (.int .i64 0):=World.cell?_setCell_same' _ _ _ (by rw [hc5'];rfl)
   refine leaves_cons (f:=70) (args:= #[.pointer (some ⟨w.heap.size+1+1,0,none⟩)]) (by simp) (by simp [go_sem]) ((Vk _ _).mono ?_)
   rintro en u' w'' ⟨rfl,rfl,rfl⟩
   exact ⟨.tuple #[.int .i64 r.1,.int .i64 0],by simp [results,Tryz.results42,go_sem,hsame],Zu (by first|rfl|rw [if_pos HZ.out]) (by first|rfl|exact HZ.out.symm),(hx.trans hx13).setCell (by simp;omega) _⟩
 · have HZ:=Lib.hid hz
   clear hz
   have hx13:=hx12.trans hx3
   have hc5':=hx13.cell hc5
   have hz5'':w3.frozen? ⟨w.heap.size+1+1,0,none⟩=false:=by rw [hx13.frozen_eq (by simp;omega)];exact hz5'
   go_wp2_with fail
   have hlt:w.heap.size+1+1<w3.heap.size:=by have:=hx13.size;omega
   refine leaves_cons (f:=70) (args:= #[.pointer (some ⟨w.heap.size+1+1,0,none⟩)]) (by simp) (by simp [go_sem]) ((Ui _ 0 r.2 _ hc5' hz5'' hlt).mono ?_)
   rintro en u' w'' ⟨rfl,rfl,rfl⟩
   have hsame:((w3.alloc (.cells #[.int .i64 r.2] 158)).setCell ⟨w.heap.size+1+1,0,none⟩ (.int .i64 r.2)).cell? ⟨w.heap.size+1+1,0,none⟩=some (.int .i64 r.2):=
    World.cell?_setCell_same' _ _ _ (by rw [World.cell?_alloc_lt w3 _ _ hlt,hc5'];rfl)
   simp only [settle,List.dropWhile]
   exact ⟨.tuple #[.int .i64 0,.int .i64 r.2],by simp [results,Tryz.results42,go_sem,hsame],Zu (by first|rfl|rw [if_neg HZ.out]) rfl,((hx.trans hx13).alloc _).setCell (by simp;omega) _⟩
theorem Zkf (x:Ev) (hx:x.ok) (d:Nat) (cs:List Value) (e:Ex) (w:World) (he:ExIn w d cs e):
 Calls Tryz.prog 42 #[.agg cs.toArray,.agg x.cells.toArray] w fun en w'=>en= .returned (.tuple #[.int .i64 (Va e x).1,.int .i64 (Va e x).2])/\Ext w w':=by
 unfold Va
 cases hf:Xt 24 e
 · simpa using Z0d x d cs e w he hf
 · simp only [if_true]
   refine (Zvu x hx d cs e w he hf).mono fun en w' ⟨h1,h2⟩=>⟨?_,h2⟩
   rw [h1]
   by_cases hz:(Zz 24 e x).2=0
   · rw [if_pos hz]
   · rw [if_neg hz,Ze5 24 e x hz]
end
section
open Go
noncomputable def dA1 {α:Type} (d:Dc E α):DcL E (α×Unit):= .cons d .nil
noncomputable def dA2 {α β:Type} (d:Dc E α) (e:Dc E β):DcL E (α×β×Unit):= .cons d (dA1 e)
noncomputable def dN:Dc E Int:=dInt .i64
noncomputable def dB:Dc E Bool:=Ya9
noncomputable def dS:Dc E (List Nat):=dStr
noncomputable def dFun (f:Nat):Dc E Unit where
 dec v:=match v with| .fn (.func g) [] []=>(match Nat.beq g f with|true=>some ()|false=>none)|_=>none
 enc _:= .fn (.func f) [] []
 ok v a h:=by
  split at h
  · split at h
    · rename_i e
      obtain rfl:=Nat.eq_of_beq_eq_true e
      exact ⟨rfl,rfl,fun _ _ _ h=>h⟩
    · cases h
  · cases h
theorem tn0:(0:Int).toNat=0:=rfl
theorem tn1:(1:Int).toNat=1:=rfl
theorem tn2:(2:Int).toNat=2:=rfl
theorem tn3:(3:Int).toNat=3:=rfl
theorem cn4:((4:Nat):Int)=4:=rfl
theorem cn16:((16:Nat):Int)=16:=rfl
def eqL:List Nat->List Nat->Bool
 | [],[]=>true
 |x::r,y::l=>Nat.beq x y&&eqL r l
 |_,_=>false
theorem Zv7:∀{a b:List Nat},eqL a b=true->a=b
 | [],[],_=>rfl
 |x::r,y::l,h=>by
  simp only [eqL,Bool.and_eq_true] at h
  rw [Nat.eq_of_beq_eq_true h.1,Zv7 h.2]
 | [],_::_,h=>by cases h
 |_::_,[],h=>by cases h
def dKs (c:List Nat):Dc E Unit where
 dec v:=match v with| .str true s=>(match eqL s c with|true=>some ()|false=>none)|_=>none
 enc _:= .str true c
 ok v a h:=by
  split at h
  · split at h
    · rename_i e
      rw [Zv7 e]
      exact ⟨rfl,rfl,fun _ _ _ h=>h⟩
    · cases h
  · cases h
theorem Zmv {σ:Pl} {g:GH} {l:Bool} {s:List Nat} {u:Value} (h:Den E σ g (.str l s) u):Byt s:=by
 cases h
 rename_i b hb
 subst hb
 exact Zm5 b
theorem Z0m {f:FuncId} {args:List (SV thy)} {v:SV thy} {j:Nat} {l:Bool} {s:List Nat} (hj:args[j]? =some (.str l s)) (h:Byt s->PureC E f args v):PureC E f args v:=by
 intro g w vals hI hd
 have hlt:j<vals.toList.length:=by rw [<-hd.1];exact (List.getElem?_eq_some_iff.1 hj).1
 exact h (Zmv (hd.2 j _ _ hj (List.getElem?_eq_getElem hlt))) g w vals hI hd
theorem Z5o {P:Prop} {f:FuncId} {args:List (SV thy)} {v:SV thy} {j:Nat} {a:SV thy} (hj:args[j]? =some a) (hP:∀g u,Den E σ0 g a u->P) (h:P->PureC E f args v):PureC E f args v:=by
 intro g w vals hI hd
 have hlt:j<vals.toList.length:=by rw [<-hd.1];exact (List.getElem?_eq_some_iff.1 hj).1
 exact h (hP g _ (hd.2 j _ _ hj (List.getElem?_eq_getElem hlt))) g w vals hI hd
theorem Z0n {g:GH} {th:Th} {l:List (domT th)} {f:Bool} {u:Value} (h:Den E σ0 g (.psl th l f) u):∀x∈l,∀(j:Nat) sv,(encF false th x)[j]? =some sv->∃v,Den E σ0 g sv v:=by
 cases h
 rename_i hd _
 intro x hx j sv hj
 obtain ⟨i,hi⟩:=List.getElem?_of_mem hx
 exact ⟨_,hd i x hi j sv hj⟩
theorem Zgv {v1:SV thy} {s:List Nat} {f:SV thy->Prop} {z:Prop}:∀{ks:List (List Nat)},(∀k∈ks,Byt k)->(s∈ks->f v1)->(s∉ks->z)->X2 false (.str false s) (ks.map fun k=>(Value.string (mkS k),v1)) f z
 | [],_,_,h2=>h2 (by simp)
 |k::ks,hb,h1,h2=>by
  rw [List.map_cons]
  unfold X2
  have hk:toL (mkS k)=k:=hb k (List.mem_cons_self ..)
  simp only [hk]
  refine ⟨fun e=> ?_,fun e=> ?_⟩
  · exact h1 (by rw [eq_of_beq e];exact List.mem_cons_self ..)
  · have e:=ne_of_beq_false e
    exact Zgv (fun k hk=>hb k (List.mem_cons_of_mem _ hk)) (fun h=>h1 (List.mem_cons_of_mem _ h)) (fun h=>h2 fun h'=>by
     rcases List.mem_cons.1 h' with h'|h'
     · exact e h'
     · exact h h')
theorem Z5p {g:GH} {a:SV thy} {vals:Array Value} (h:DenL E σ0 g [a] vals.toList):∃u,vals= #[u]/\Den E σ0 g a u:=by
 obtain ⟨l⟩:=vals
 obtain ⟨h1,h2⟩:=h
 match l,h1,h2 with
 | [u],_,h2=>exact ⟨u,rfl,h2 0 a u rfl rfl⟩
theorem Z0o {g:GH} {a b:SV thy} {vals:Array Value} (h:DenL E σ0 g [a,b] vals.toList):∃u v,vals= #[u,v]/\Den E σ0 g a u/\Den E σ0 g b v:=by
 obtain ⟨l⟩:=vals
 obtain ⟨h1,h2⟩:=h
 match l,h1,h2 with
 | [u,v],_,h2=>exact ⟨u,v,rfl,h2 0 a u rfl rfl,h2 1 b v rfl rfl⟩
theorem Z0p {g:GH} {l:List UInt8}:Den E σ0 g (.str false (l.map UInt8.toNat)) (.string ⟨l.toArray⟩):= .str _ (by simp [toL])
end
section
open Go.RowKit
section
variable {Y : Thy} {E : Eng Y}
inductive Frz (E:Eng Y) (h:Hp Y):SV Y->SV Y->Prop
 |same {v:SV Y} (hn:nid 0 v=true):Frz E h v v
 |ptr {b:Nat} {cs:List (SV Y)} {fz:Nat} {tg:Option Y.Th} {th:Y.Th} {x:Y.dom th} (hb:h b=some (.raw cs fz tg)) (hd:E.dec th cs=some x):Frz E h (.ptr b 0) (.pptr th x 0)
 |fn {f:Fn} {a a' b b':List (SV Y)} (ha:a.length=a'.length) (hb:b.length=b'.length) (h1:∀(j:Nat) x x',a[j]? =some x->a'[j]? =some x'->Frz E h x x') (h2:∀(j:Nat) x x',b[j]? =some x->b'[j]? =some x'->Frz E h x x'):Frz E h (.fn f a b) (.fn f a' b')
 |agg {a a':List (SV Y)} (ha:a.length=a'.length) (h1:∀(j:Nat) x x',a[j]? =some x->a'[j]? =some x'->Frz E h x x'):Frz E h (.agg a) (.agg a')
theorem Zo1 {α:Type} {l l':List α} (h:l.length=l'.length) {j:Nat} {x':α} (hx:l'[j]? =some x'):∃x,l[j]? =some x:=by
 have:j<l'.length:=(List.getElem?_eq_some_iff.1 hx).1
 exact ⟨l[j]'(by omega),List.getElem?_eq_getElem _⟩
theorem Z7m (hE:EngOk E) {B n:Nat} {σ:Pl} {h:Hp Y} {g:GH} {w:World} (hI:Inv E B σ h g w) (hn:n<=B) {v v':SV Y} (hr:Frz E h v v'):∀{u:Value},Den E σ g v u->Den E σ0 (allG g n w) v' u:=by
 have hle:=Zba (n:=n) hI
 induction hr with
 |same hn=>exact fun hd=>(Zy hE (i:=0) (σ':=σ0) hd (fun b p hb=>by omega) hn).mono (.refl _) hle
 | @ptr b cs fz tg th x hb hdec=>
  intro u hd
  cases hd
  rename_i r z hσ
  obtain ⟨r2,z2,hσ2,hbo⟩:=hI.blk b _ hb
  rw [hσ] at hσ2;cases hσ2
  obtain ⟨c,hc1,hc2⟩:=Xs (by intro es e;cases e) hbo
  obtain ⟨hl,hden⟩:=hE.dec th cs x hdec
  refine .pptr (o:=0) c (fun j hj=> ?_) fun j sv' hj=> ?_
  · rw [hE.enc] at hj
    show (if n<=r then _ else _)=_
    rw [if_pos (Nat.le_trans hn (hI.base b r z hσ).1)]
    exact (by simpa using hc1 j (by show j<cs.length;omega))
  · have hjw:j<E.w th:=by rw [<-hE.enc th x];exact (List.getElem?_eq_some_iff.1 hj).1
    obtain ⟨sv,hsv⟩:∃sv,cs[j]? =some sv:=⟨cs[j]'(by omega),List.getElem?_eq_getElem _⟩
    have h3:=hden σ g j sv sv' (c j) hsv hj (hc2 j sv hsv)
    exact (Zy hE (i:=0) (σ':=σ0) h3 (fun b p hb=>by omega) (Zp (hE.encI _ _ _) hj)).mono (.refl _) hle
 |fn ha hb h1 h2 ih1 ih2=>
  intro u hd
  cases hd
  rename_i va vb ca cb hsa hca hda hsb hcb hdb
  refine .fn ca cb (by omega) (fun j hj=>hca j (by omega)) (fun j sv hj=> ?_) (by omega) (fun j hj=>hcb j (by omega)) fun j sv hj=> ?_
  · obtain ⟨x,hx⟩:=Zo1 ha hj
    exact ih1 j x sv hx hj (hda j x hx)
  · obtain ⟨x,hx⟩:=Zo1 hb hj
    exact ih2 j x sv hx hj (hdb j x hx)
 |agg ha h1 ih=>
  intro u hd
  cases hd
  rename_i arr c hs hc hd
  refine .agg c (by omega) (fun j hj=>hc j (by omega)) fun j sv hj=> ?_
  obtain ⟨x,hx⟩:=Zo1 ha hj
  exact ih j x sv hx hj (hd j x hx)
theorem Zbf (hE:EngOk E) {call:Nat->List (SV Y)->Hp Y->Nat->(Res Y->Prop)->Prop} (hcall:Wo E call) {f:Nat} {args:List (SV Y)} {v:SV Y} {K:Res Y->Prop} (hK:∀r,K r->Frz E (patch hp0 0 r) r.v v) (hk:call f args hp0 0 K):PureC E f args v:=by
 obtain ⟨r,hr,hR,htri⟩:=hcall f args hp0 0 _ (fun b hb=>absurd rfl hb) hk
 have htri:Za1 E f args hp0 0 r:=by
  rcases htri with htri|⟨p,hp,_⟩
  · exact htri
  · have hfz:=hK r hr
    rw [hp] at hfz
    cases hfz
    rename_i hn
    cases hn
 intro g w vals hI hd
 refine (htri w.heap.size σ0 g w vals hp0 (fun _ _=>rfl) hI (Nat.le_refl _) (fun _ _ _=>rfl) hd).mono ?_
 rintro en w' ⟨u,he,σ',g',hS,hI',hv⟩
 have hm:∀b,b∉r.mods:=fun b hb=>hR b hb rfl
 have hle:=Zba (n:=w.heap.size) hI'
 refine ⟨u,he,allG g' w.heap.size w',⟨.refl _,fun b p h=> .inl h,hS.gle.trans hle,fun q o v hv=> ?_,fun q es hv=> ?_,fun q hq _=>hS.heap q hq (fun b hb=>absurd hb (hm b)),hS.size,hS.os,hS.tape,hS.output,(fun b q z h1 h2=>by cases h2)⟩,Zd3 hI',Z7m hE hI' (Nat.le_refl _) (hK r hr) hv⟩
 · have hv:(if w.heap.size<=q then w'.cell? ⟨q,o,none⟩ else g'.cell q o)=some v:=hv
   split at hv
   · exact .inr (.inl ‹_›)
   · rcases hS.gcnew q o v hv with h1|h1|⟨b,h1,_⟩
     · exact .inl h1
     · exact .inr (.inl h1)
     · exact absurd h1 (hm b)
 · have hv:(if w.heap.size<=q then (match w'.heap[q]? with|some (.map es _)=>some es|_=>none) else g'.obj q)=some es:=hv
   split at hv
   · exact .inr ‹_›
   · rcases hS.gmnew q es hv with h1|h1
     · exact .inl h1
     · exact .inr h1
noncomputable def sumO (pre:List (SV Y)->Option (SV Y)):Sum Y:=fun args _ _ k=>match pre args with|some v=>(match nidL 0 args with|true=>k (quiet [] v)|false=>False)|none=>False
theorem Zda (hE:EngOk E) {f:Nat} (hg:FnGood E.P f) {pre:List (SV Y)->Option (SV Y)} (hp:∀args v,pre args=some v->PureC E f args v):SumOk E f (sumO pre):=by
 refine ⟨hg,fun args h i k hD hk=> ?_⟩
 unfold sumO at hk
 split at hk
 · rename_i v hpre
   split at hk
   · rename_i hn
     exact ⟨_,hk,(hp args v hpre).tri2 hE hn h i⟩
   · exact hk.elim
 · exact hk.elim
end
end
section
open Go.RowKit
section
variable {Y : Thy} {E : Eng Y}
end
end
section
open Go.RowKit
section
variable {Y : Thy} {E : Eng Y}
def one (cs:List (SV Y)):Hp Y:=fun b=>match Nat.beq b 0 with|true=>some (.raw cs 0 none)|false=>none
theorem Zuk (cs:List (SV Y)):one cs 0=some (.raw cs 0 none):=rfl
theorem Zbp {cs:List (SV Y)} {b:Nat} (h:one cs b≠none):b=0:=by
 cases b with
 |zero=>rfl
 |succ b=>exact absurd rfl h
theorem Vg {cs:List (SV Y)} {b:Nat} {x:Blk Y} (h:one cs b=some x):b=0/\x= .raw cs 0 none:=by
 have:=Zbp (cs:=cs) (b:=b) (by rw [h];simp)
 subst this
 rw [Zuk] at h
 cases h
 exact ⟨rfl,rfl⟩
theorem Z4a (cs:List (SV Y)):DomLt (one cs) 1:=fun b hb=>by have:=Zbp hb;omega
def σ1 (p:Nat×Nat):Pl:=fun b=>match Nat.beq b 0 with|true=>some p|false=>none
theorem σ1_some {p q:Nat×Nat} {b:Nat} (h:σ1 p b=some q):b=0/\q=p:=by
 cases b with
 |zero=>cases h;exact ⟨rfl,rfl⟩
 |succ b=>cases h
def mutR (v:SV Y) (cs:List (SV Y)):Res Y:=⟨v,0,[0],at1 0 (some (.raw cs 0 none)),none⟩
def panR (p:Value):Res Y:=⟨.pan p,0,[0],fun _=>none,none⟩
theorem Zri (cs cs':List (SV Y)) (v:SV Y):patch (one cs) 1 (mutR v cs')=one cs':=by
 funext b
 rw [Ze]
 cases b with
 |zero=>simp [mutR,at1,one]
 |succ b=>
  rw [if_neg (by simp [mutR])]
  rfl
theorem Zrj (cs:List (SV Y)) (p:Value):patch (one cs) 1 (panR p)=fun _=>none:=by
 funext b
 rw [Ze]
 cases b with
 |zero=>simp [panR]
 |succ b=>
  rw [if_neg (by simp [panR])]
  rfl
def MutC (E:Eng Y) (f:FuncId) (cs rest:List (SV Y)) (v:SV Y) (cs':List (SV Y)):Prop:=Za1 E f (.ptr 0 0::rest) (one cs) 1 (mutR v cs')
def MutP (E:Eng Y) (f:FuncId) (cs rest:List (SV Y)) (p:Value):Prop:=Zl6 E f (.ptr 0 0::rest) (one cs) 1 (panR p)
theorem Zl3 (hE:EngOk E) {B:Nat} {σ:Pl} {h:Hp Y} {g:GH} {w:World} {b r z:Nat} {cs cs0:List (SV Y)} {tg:Option Y.Th} (hI:Inv E B σ h g w) (hb:h b=some (.raw cs 0 tg)) (hσ:σ b=some (r,z)) (hlen:cs.length=cs0.length) (hn:nidL 0 cs0=true)
 (hden:∀σ g (j:Nat) sv',cs0[j]? =some sv'->∃sv,cs[j]? =some sv/\∀u,Den E σ g sv u->Den E σ g sv' u):Inv E B (σ1 (r,z)) (one cs0) g w:=by
 refine ⟨hI.gc,hI.gm,fun x y hx=> ?_,fun x x' r z z' h1 h2 _ _=> ?_,fun x r' z' hs=> ?_,fun x y r' z' o v hx hs hv=> ?_,fun x y r' z' hx hs=> ?_,hI.glob⟩
 · obtain ⟨rfl,rfl⟩:=Vg hx
   refine ⟨r,z,rfl,?_⟩
   obtain ⟨r',z',hσ',arr,e,k1,k2,k3,k4,k5⟩:=hI.blk b _ hb
   rw [hσ] at hσ';cases hσ'
   refine ⟨arr,e,k1,k2,?_,fun j sv' hj=> ?_,trivial⟩
   · simp only [Blk.cells] at k3⊢;omega
   · obtain ⟨sv,h1,h2⟩:=hden σ g j sv' hj
     obtain ⟨v,m1,m2⟩:=k4 j sv h1
     exact ⟨v,m1,Zy hE (h2 v m2) (fun b p hb=>by omega) (Zp hn hj)⟩
 · rw [Zbp h1,Zbp h2]
 · obtain ⟨rfl,e⟩:=σ1_some hs
   cases e
   exact hI.base b _ _ hσ
 · obtain ⟨rfl,e⟩:=σ1_some hs
   obtain ⟨_,rfl⟩:=Vg hx
   cases e
   have h2:o<0:=hI.fz b (.raw cs 0 tg) _ _ o v hb hσ hv
   omega
 · obtain ⟨rfl,e⟩:=σ1_some hs
   cases e
   exact hI.fm b _ _ _ hb hσ
def rawO:Option (List (SV Y))->Option (Blk Y)
 |some c=>some (.raw c 0 none)
 |none=>none
theorem Wn (hE:EngOk E) {B:Nat} {σ σ':Pl} {h:Hp Y} {g g':GH} {w w':World} {b i r z:Nat} {cs:List (SV Y)} {fz:Nat} {tg:Option Y.Th} {x':Option (List (SV Y))} (hI:Inv E B σ h g w) (hb:h b=some (.raw cs fz tg)) (hσ:σ b=some (r,z)) {v v0:SV Y} {h0:Hp Y}
 {σc:Pl} {m0:Nat} (hc0:σc 0=some (r,z)) (hS:Stp m0 0 [0] σc g w σ' g' w') (hI':Inv E B σ' h0 g' w') (h00:∀c,x'=some c->h0 0=some (.raw c 0 none)) (hn:∀c,x'=some c->nidL 0 c=true):
 Stp i 0 [b] σ g w σ g' w'/\Inv E B σ (patch h i ⟨v,0,[b],at1 b (rawO x'),none⟩) g' w':=by
 have hs0:σ' 0=some (r,z):=hS.sig 0 _ hc0
 have one0:∀b'∈ [0],∀q z',σc b'=some (q,z')->b'=0/\(q,z')=(r,z):=by
  intro b' hb' q z' hz'
  rw [List.mem_singleton] at hb'
  subst hb'
  rw [hc0] at hz'
  exact ⟨rfl,(Option.some.inj hz').symm⟩
 have hheap:∀q,q<w.heap.size->q≠r->w'.heap[q]? =w.heap[q]? :=by
  intro q hq hne
  refine hS.heap q hq fun b' hb' z' hz'=> ?_
  obtain ⟨_,e⟩:=one0 b' hb' q z' hz'
  cases e
  exact hne rfl
 have hpatch:∀x,patch h i ⟨v,0,[b],at1 b (rawO x'),none⟩ x=if x=b then (rawO x') else h x:=by
  intro x
  rw [Ze]
  by_cases e:x=b
  · subst e
    rw [if_pos (.inl (by show x∈ [x];simp)),if_pos rfl]
    show at1 x _ x=_
    unfold at1
    rw [Nat.beq_refl]
  · rw [if_neg e,if_neg]
    rintro (c|c)
    · exact e (by simpa using c)
    · simp at c;omega
 have src:∀x y,patch h i ⟨v,0,[b],at1 b (rawO x'),none⟩ x=some y->(x=b/\∃c,x'=some c/\y= .raw c 0 none)\/(x≠b/\h x=some y):=by
  intro x y hy
  rw [hpatch] at hy
  split at hy
  · rename_i e
    cases hx':x' with
    |none=>rw [hx'] at hy;cases hy
    |some c=>rw [hx'] at hy;cases hy;exact .inl ⟨e,c,rfl,rfl⟩
  · rename_i e
    exact .inr ⟨e,hy⟩
 have far:∀x y q z',x≠b->h x=some y->σ x=some (q,z')->q<w.heap.size/\q≠r:=by
  intro x y q z' hx hy hs
  refine ⟨(hI.base x q z' hs).2,?_⟩
  rintro rfl
  exact hx (hI.inj x b _ _ _ (by rw [hy];simp) (by rw [hb];simp) hs hσ)
 have ne:∀x,patch h i ⟨v,0,[b],at1 b (rawO x'),none⟩ x≠none->h x≠none:=by
  intro x hx
  obtain ⟨y,hy⟩:=Option.ne_none_iff_exists'.1 hx
  rcases src x y hy with ⟨rfl,_⟩|⟨_,h2⟩
  · rw [hb];simp
  · rw [h2];simp
 refine ⟨⟨.refl _,fun x p hx=> .inl hx,hS.gle,fun q o v hv=> ?_,hS.gmnew,fun q hq hx=>hheap q hq fun e=>hx b (by simp) z (by rw [hσ,e]),hS.size,hS.os,hS.tape,hS.output,fun x q z' h1 h2=>by rw [h1] at h2;cases h2⟩,
  hI'.gc,hI'.gm,fun x y hx=> ?_,fun x x' q z1 z2 h1 h2 h3 h4=>hI.inj x x' q z1 z2 (ne x h1) (ne x' h2) h3 h4,fun x q z' hs=>⟨(hI.base x q z' hs).1,Nat.lt_of_lt_of_le (hI.base x q z' hs).2 hS.size⟩,fun x y q z' o v hx hs hv=> ?_,fun x y q z' hx hs=> ?_,hI'.glob⟩
 · rcases hS.gcnew q o v hv with h1|h1|⟨b',h1,z',h2⟩
   · exact .inl h1
   · exact .inr (.inl h1)
   · obtain ⟨_,e⟩:=one0 b' h1 _ _ h2
     cases e
     exact .inr (.inr ⟨b,by simp,z,hσ⟩)
 · rcases src x y hx with ⟨rfl,c,hc,rfl⟩|⟨e1,e2⟩
   · refine ⟨r,z,hσ,?_⟩
     obtain ⟨r2,z2,m1,arr,e,k1,k2,k3,k4,k5⟩:=hI'.blk 0 _ (h00 c hc)
     rw [hs0] at m1;cases m1
     refine ⟨arr,e,k1,k2,k3,fun j sv hj=> ?_,trivial⟩
     obtain ⟨v,m1,m2⟩:=k4 j sv hj
     exact ⟨v,m1,Zy hE m2 (fun b p hb=>by omega) (Zp (hn c hc) hj)⟩
   · obtain ⟨q,z',m1,m2⟩:=hI.blk x y e2
     obtain ⟨m3,m4⟩:=far x y q z' e1 e2 m1
     exact ⟨q,z',m1,m2.mono (.refl _) hS.gle (hheap q m3 m4)⟩
 · rcases src x y hx with ⟨rfl,c,hc,rfl⟩|⟨e1,e2⟩
   · rw [hσ] at hs;cases hs
     exact hI'.fz 0 _ _ _ o v (h00 c hc) hs0 hv
   · obtain ⟨m3,m4⟩:=far x y q z' e1 e2 hs
     rcases hS.gcnew q o v hv with h1|h1|⟨b',h1,z2,h2⟩
     · exact hI.fz x y q z' o v e2 hs h1
     · omega
     · obtain ⟨_,e⟩:=one0 b' h1 _ _ h2
       cases e
       exact absurd rfl m4
 · rcases src x y hx with ⟨rfl,c,hc,rfl⟩|⟨e1,e2⟩
   · rw [hσ] at hs;cases hs
     exact hI'.fm 0 _ _ _ (h00 c hc) hs0
   · obtain ⟨m3,m4⟩:=far x y q z' e1 e2 hs
     cases hg':g'.obj q with
     |none=>rfl
     |some es=>
      rcases hS.gmnew q es hg' with k|k
      · rw [hI.fm x y q z' e2 hs] at k;cases k
      · omega
section
variable {X α β ε : Type}
structure MutI (E:Eng Y) (X α β ε:Type) where
 dS:DcL E X
 dA:DcL E α
 v:β->SV Y
 hv:∀y,nid 0 (v y)=true
 hS:∀x,nidL 0 (dS.enc x)=true
 hA:∀a,nidL 0 (dA.enc a)=true
 pv:ε->Value
def Wk (M:MutI E X α β ε) (f:FuncId) (x:X) (a:α) (out:Except ε (β×X)):Prop:=
 match out with
 | .ok (y,x')=>MutC E f (M.dS.enc x) (M.dA.enc a) (M.v y) (M.dS.enc x')
 | .error e=>MutP E f (M.dS.enc x) (M.dA.enc a) (M.pv e)
def Zgq (b:Nat) (v:SV Y) (cs:List (SV Y)):Res Y:=⟨v,0,[b],at1 b (some (.raw cs 0 none)),none⟩
def Zul (b:Nat) (p:Value):Res Y:=⟨.pan p,0,[b],at1 b none,none⟩
def sumM (M:MutI E X α β ε) (pre:X->α->Prop) (f:X->α->Except ε (β×X)):Sum Y:=fun args h _ k=>
 match args with
 | .ptr b 0::rest=>
  (match h b with
  |some (.raw cs 0 _)=>
   (match M.dS.dec cs,M.dA.dec rest with
   |some x,some a=>pre x a/\(∀y x',f x a= .ok (y,x')->k (Zgq b (M.v y) (M.dS.enc x')))/\(∀e,f x a= .error e->k (Zul b (M.pv e)))
   |_,_=>False)
  |_=>False)
 |_=>False
theorem Zpg {M:DcL E α} {rest:List (SV Y)} {a:α} (hE:EngOk E) (hr:M.dec rest=some a) (hn:nidL 0 (M.enc a)=true) {b r z:Nat} {σ:Pl} {g:GH} {vals:List Value} (hσ:σ b=some (r,z)) (hd:DenL E σ g (.ptr b 0::rest) vals):DenL E (σ1 (r,z)) g (.ptr 0 0::M.enc a) vals:=by
 obtain ⟨k1,k2,k3⟩:=M.ok _ _ hr
 refine ⟨by rw [<-hd.1];simp [k2],fun j sv u h1 h2=> ?_⟩
 cases j with
 |zero=>
  simp at h1;subst h1
  have:=hd.2 0 _ u rfl h2
  cases this
  rename_i hs
  rw [hσ] at hs;cases hs
  exact .ptr (E:=E) (b:=0) rfl
 |succ j=>
  have h1:(M.enc a)[j]? =some sv:=by simpa using h1
  obtain ⟨s0,h3,h4⟩:=k3 σ g j sv h1
  exact Zy hE (h4 u (hd.2 (j+1) s0 u (by simpa using h3) h2)) (fun b p hb=>by omega) (Zp hn h1)
theorem Xa (hE:EngOk E) {f:Nat} (hg:FnGood E.P f) {M:MutI E X α β ε} {pre:X->α->Prop} {fn:X->α->Except ε (β×X)} (hp:∀x a,pre x a->Wk M f x a (fn x a)):SumOk E f (sumM M pre fn):=by
 refine ⟨hg,fun args h i k hD hk=> ?_⟩
 unfold sumM at hk
 split at hk
 case h_2=>exact hk.elim
 rename_i b rest
 split at hk
 case h_2=>exact hk.elim
 rename_i cs tg hb
 split at hk
 case h_2=>exact hk.elim
 rename_i x a hx ha
 obtain ⟨hpp,hk1,hk2⟩:=hk
 have hm:=hp x a hpp
 obtain ⟨c1,c2,c3⟩:=M.dS.ok _ _ hx
 have hbn:h b≠none:=by rw [hb];simp
 unfold Wk at hm
 split at hm
 · rename_i y x' ho
   refine ⟨_,hk1 y x' ho,fun b' hb'=>by
    have:b'∈ [b]:=hb'
    rw [List.mem_singleton] at this
    rw [this];exact hbn,.inl ?_⟩
   intro B σ g w vals hh hrd hI hB hfree hd
   obtain rfl:hh=h:=funext fun b=>hrd b trivial
   obtain ⟨r,z,hσ,_⟩:=hI.blk b _ hb
   refine (hm B (σ1 (r,z)) g w vals _ (fun _ _=>rfl) (Zl3 hE hI hb hσ c2 (M.hS x) c3) hB (fun c h1 h2=>by simp [mutR] at h2;omega) (Zpg hE ha (M.hA a) hσ hd)).mono ?_
   rintro en w' ⟨u,he,σ',g',hS,hI',hv⟩
   rw [Zri] at hI'
   obtain ⟨q1,q2⟩:=Wn hE (i:=i) (v:=M.v y) (v0:=M.v y) (x':=some (M.dS.enc x')) hI hb hσ rfl hS hI' (fun c hc=>by cases hc;rfl) (fun c hc=>by cases hc;exact M.hS x')
   exact ⟨u,he,σ,g',q1,q2,Zy hE hv (fun b p hb=>by omega) (M.hv y)⟩
 · rename_i e ho
   refine ⟨_,hk2 e ho,fun b' hb'=>by
    have:b'∈ [b]:=hb'
    rw [List.mem_singleton] at this
    rw [this];exact hbn,.inr ?_⟩
   obtain ⟨p,hp',hm⟩:=hm
   have hp':(SV.pan (M.pv e):SV Y)= .pan p:=hp'
   cases hp'
   refine ⟨_,rfl,fun B σ g w vals hI hB hfree hd=> ?_⟩
   obtain ⟨r,z,hσ,_⟩:=hI.blk b _ hb
   refine (hm B (σ1 (r,z)) g w vals (Zl3 hE hI hb hσ c2 (M.hS x) c3) hB (fun c h1 h2=>by simp [panR] at h2;omega) (Zpg hE ha (M.hA a) hσ hd)).mono ?_
   rintro en w' ⟨he,σ',g',hS,hI'⟩
   obtain ⟨q1,q2⟩:=Wn hE (i:=i) (v:= .pan (M.pv e)) (v0:= .unk) (x':=none) hI hb hσ rfl hS hI' (fun c hc=>by cases hc) (fun c hc=>by cases hc)
   exact ⟨he,σ,g',q1,q2⟩
theorem Z4b {B:Nat} {p:Nat×Nat} {h:Hp Y} {g g':GH} {w w':World} {σ':Pl} {n:Nat} {mods:List Nat} (hp:p.1<w.heap.size) (hS:Stp 1 n mods (σ1 p) g w σ' g' w') (hI':Inv E B σ' h g' w') (h0:h 0≠none):∀b r z,b≠0->h b≠none->σ' b=some (r,z)->w.heap.size<=r:=by
 intro b r z hb hn hs
 have hs0:σ1 p b=none:=by
  cases b with
  |zero=>exact absurd rfl hb
  |succ b=>rfl
 rcases hS.blk b r z hs0 hs with h1|⟨b',h1,z',h2⟩
 · exact h1
 · obtain ⟨rfl,e⟩:=σ1_some h2
   subst e
   have h3:=hS.sig 0 _ h2
   exact absurd (hI'.inj b 0 r z z' hn h0 hs h3) hb
noncomputable def mutK (M:MutI E X α β ε) (gth:List (SV Y)->Option Y.Th) (n:Nat) (dec:SV Y->Option β) (decP:Value->Option ε) (x:X) (out:Except ε (β×X)) (r:Res Y):Prop:=
 match Uc r.v with
 |some q=>(match decP q with|some e=>out= .error e|none=>False)
 |none=>frzK E gth (patch (one (M.dS.enc x)) 1 r) n r.v fun v' bs=>
  (match patch (one (M.dS.enc x)) 1 r 0 with
  |some (.raw c2 0 _)=>frzL (frzK E gth (patch (one (M.dS.enc x)) 1 r) n) c2 fun cs' bs'=>
   (match memB 0 (bs++bs'),dec v',M.dS.dec cs' with
   |false,some y,some x'=>out= .ok (y,x')
   |_,_,_=>False)
  |_=>False)
theorem CallTri2.panic {f:FuncId} {args:List (SV Y)} {h:Hp Y} {i:Nat} {r:Res Y} {p:Value} (ht:CallTri2 E f args h i r) (hp:Uc r.v=some p) {B:Nat} {σ:Pl} {g:GH} {w:World} {vals:Array Value} (hI:Inv E B σ h g w) (hB:B<=w.heap.size) (hfree:∀b,i<=b->b<i+r.n->σ b=none) (hd:DenL E σ g args vals.toList):
 Calls E.P f vals w fun en w'=>en= .panicked [{v:=p,recovered:=false}]/\∃σ' g',Stp i r.n r.mods σ g w σ' g' w'/\Inv E B σ' (patch h i r) g' w':=by
 have hv:=Zqj hp
 rcases ht with ht|⟨p',hp',ht⟩
 · refine (ht B σ g w vals h (fun _ _=>rfl) hI hB hfree hd).mono ?_
   rintro en w' ⟨u,_,σ',g',_,_,hd⟩
   rw [hv] at hd
   cases hd
 · rw [hv] at hp'
   cases hp'
   exact ht B σ g w vals hI hB hfree hd
theorem CallTri2.tri {f:FuncId} {args:List (SV Y)} {h:Hp Y} {i:Nat} {r:Res Y} (ht:CallTri2 E f args h i r) (hp:Uc r.v=none):Za1 E f args h i r:=by
 rcases ht with ht|⟨p,hv,_⟩
 · exact ht
 · rw [hv] at hp;cases hp
theorem Yak (hE:EngOk E) {σ σ':Pl} {g:GH} {l:List (SV Y)} {vals:List Value} (hn:nidL 0 l=true) (h:DenL E σ g l vals):DenL E σ' g l vals:=
 ⟨h.1,fun j sv u h1 h2=>Zy hE (h.2 j sv u h1 h2) (fun b p hb=>by omega) (Zp hn h1)⟩
theorem Zzf (hE:EngOk E) {l:List (SV Y)} (hn:nidL 0 l=true) {r z:Nat} {σ:Pl} {g:GH} {vals:List Value} (hσ:σ 0=some (r,z)) (hd:DenL E σ g (.ptr 0 0::l) vals):DenL E (σ1 (r,z)) g (.ptr 0 0::l) vals:=by
 refine ⟨hd.1,fun j sv u h1 h2=> ?_⟩
 cases j with
 |zero=>
  simp at h1;subst h1
  have:=hd.2 0 _ u rfl h2
  cases this
  rename_i hs
  rw [hσ] at hs;cases hs
  exact .ptr (E:=E) (b:=0) rfl
 |succ j=>
  have h1:l[j]? =some sv:=by simpa using h1
  exact Zy hE (hd.2 (j+1) sv u (by simpa using h1) h2) (fun b p hb=>by omega) (Zp hn h1)
theorem Zl4 (hE:EngOk E) {call:Nat->List (SV Y)->Hp Y->Nat->(Res Y->Prop)->Prop} (hcall:Wo E call) {M:MutI E X α β ε} {gth:List (SV Y)->Option Y.Th} {n:Nat} {dec:SV Y->Option β} {decP:Value->Option ε} (hdec:∀v y,dec v=some y->∀σ g u,Den E σ g v u->Den E σ g (M.v y) u) (hdecP:∀q e,decP q=some e->M.pv e=q)
 {f:Nat} {x:X} {a:α} {out:Except ε (β×X)} (hk:call f (.ptr 0 0::M.dA.enc a) (one (M.dS.enc x)) 1 (mutK M gth n dec decP x out)):Wk M f x a out:=by
 obtain ⟨r,hr,hR,htri⟩:=hcall f _ _ _ _ (Z4a _) hk
 have hmods:∀b∈r.mods,b=0:=fun b hb=>Zbp (hR b hb)
 have free1:∀(p:Nat×Nat) (b:Nat),1<=b->b<1+r.n->σ1 p b=none:=by
  intro p b hb _
  cases b with
  |zero=>omega
  |succ b=>rfl
 have stp:∀(p:Nat×Nat) (g g' g'':GH) (w w':World) (σ':Pl),Stp 1 r.n r.mods (σ1 p) g w σ' g' w'->g'.le g''->(∀q o v,g''.cell q o=some v->g'.cell q o=some v\/w.heap.size<=q)->(∀q es,g''.obj q=some es->g'.obj q=some es\/w.heap.size<=q)->Stp 1 0 [0] (σ1 p) g w (σ1 p) g'' w':=by
  intro p g g' g'' w w' σ' hS hle hc hm
  refine ⟨.refl _,fun b q h=> .inl h,hS.gle.trans hle,fun q o v hv=> ?_,fun q es hv=> ?_,fun q hq hx=>hS.heap q hq fun b hb=>hx b (by rw [hmods b hb];simp),hS.size,hS.os,hS.tape,hS.output,fun b q z h1 h2=>by rw [h1] at h2;cases h2⟩
  · rcases hc q o v hv with h1|h1
    · rcases hS.gcnew q o v h1 with h2|h2|⟨b,h2,h3⟩
      · exact .inl h2
      · exact .inr (.inl h2)
      · exact .inr (.inr ⟨b,by rw [hmods b h2];simp,h3⟩)
    · exact .inr (.inl h1)
  · rcases hm q es hv with h1|h1
    · exact hS.gmnew q es h1
    · exact .inr h1
 have start:∀(B:Nat) (σ:Pl) (g:GH) (w:World) (vals:Array Value),Inv E B σ (one (M.dS.enc x)) g w->DenL E σ g (.ptr 0 0::M.dA.enc a) vals.toList->∃rr zz,σ 0=some (rr,zz)/\Inv E B (σ1 (rr,zz)) (one (M.dS.enc x)) g w/\DenL E (σ1 (rr,zz)) g (.ptr 0 0::M.dA.enc a) vals.toList:=by
  intro B σ g w vals hI hd
  obtain ⟨rr,zz,hσ,_⟩:=hI.blk 0 _ (Zuk _)
  exact ⟨rr,zz,hσ,Zl3 hE hI (Zuk _) hσ rfl (M.hS x) (fun σ g j sv' hj=>⟨sv',hj,fun u h=>h⟩),Zzf hE (M.hA a) hσ hd⟩
 unfold mutK at hr
 split at hr
 · rename_i q hq
   split at hr
   case h_2=>exact hr.elim
   rename_i e he
   subst hr
   show MutP E f _ _ (M.pv e)
   refine ⟨_,rfl,fun B σ g w vals hI hB hfree hd=> ?_⟩
   obtain ⟨rr,zz,hσ,hI1,hd1⟩:=start B σ g w vals hI hd
   refine (htri.panic hq hI1 hB (free1 _) hd1).mono ?_
   rintro en w' ⟨rfl,σ',g',hS,hI'⟩
   refine ⟨by rw [hdecP q e he],?_⟩
   have hS1:=stp _ g g' g' w w' σ' hS (.refl _) (fun _ _ _ h=> .inl h) (fun _ _ h=> .inl h)
   have hI2:Inv E B (σ1 (rr,zz)) (fun _=>none) g' w':=⟨hI'.gc,hI'.gm,(fun b x hx=>by cases hx),fun b b' r z z' h1=>absurd rfl h1,fun b r z hs=>⟨(hI1.base b r z hs).1,Nat.lt_of_lt_of_le (hI1.base b r z hs).2 hS.size⟩,(fun b x r z o v hx=>by cases hx),(fun b x r z hx=>by cases hx),hI'.glob⟩
   obtain ⟨q1,q2⟩:=Wn hE (i:=1) (v:= .pan (M.pv e)) (v0:= .unk) (x':=none) hI (Zuk _) hσ rfl hS1 hI2 (fun c hc=>by cases hc) (fun c hc=>by cases hc)
   refine ⟨σ,g',q1,?_⟩
   have e2:patch (one (M.dS.enc x)) 1 ⟨.pan (M.pv e),0,[0],at1 0 (rawO none),none⟩=patch (one (M.dS.enc x)) 1 (panR (M.pv e)):=by
    rw [Zrj]
    funext b
    rw [Ze]
    cases b with
    |zero=>simp [at1,rawO]
    |succ b=>
     rw [if_neg (by simp)]
     rfl
   rw [<-e2];exact q2
 · rename_i hq
   have htri:=htri.tri hq
   obtain ⟨v',bs,hr,o1⟩:=Uq hE n r.v _ hr
   split at hr
   case h_2=>exact hr.elim
   rename_i c2 tg h0
   obtain ⟨cs',bs',hr,o2⟩:=W1 (Uq hE n) hr
   split at hr
   case h_2=>exact hr.elim
   rename_i y x' hmem hy hx'
   subst hr
   show MutC E f _ _ (M.v y) _
   intro B σ g w vals hh hrd hI hB hfree hd
   obtain rfl:hh=one (M.dS.enc x):=funext fun b=>hrd b trivial
   obtain ⟨rr,zz,hσ,hI1,hd1⟩:=start B σ g w vals hI hd
   refine (htri B _ g w vals _ (fun _ _=>rfl) hI1 hB (free1 _) hd1).mono ?_
   rintro en w' ⟨u,rfl,σ',g',hS,hI',hv⟩
   refine ⟨u,rfl,?_⟩
   have hs0:σ' 0=some (rr,zz):=hS.sig 0 _ rfl
   have hrr:rr<w.heap.size:=(hI1.base 0 rr zz rfl).2
   have hfar:=Z4b hrr hS hI' (by rw [h0];simp)
   have hle:=Zba (n:=w.heap.size) hI'
   have hkept:Kept E (patch (one (M.dS.enc x)) 1 r) σ' (bs++bs') w' (allG g' w.heap.size w'):=by
    intro b hb q z y1 hs hy1 j v hj hv
    have hb0:b≠0:=by
     rintro rfl
     have:=memB_iff.2 hb
     rw [this] at hmem;cases hmem
    show (if w.heap.size<=q then w'.cell? ⟨q,j,none⟩ else g'.cell q j)=some v
    rw [if_pos (hfar b q z hb0 (by rw [hy1];simp) hs)]
    exact hv
   have hval:=o1.den _ σ' g' w' B u _ (fun _ _=>rfl) hI' hle (hkept.sub fun b hb=>List.mem_append_left _ hb) hv
   have hcell:∀q o v,(allG g' w.heap.size w').cell q o=some v->g'.cell q o=some v\/w.heap.size<=q:=by
    intro q o v hv
    have hv:(if w.heap.size<=q then w'.cell? ⟨q,o,none⟩ else g'.cell q o)=some v:=hv
    split at hv
    · exact .inr (by assumption)
    · exact .inl hv
   have hobj:∀q es,(allG g' w.heap.size w').obj q=some es->g'.obj q=some es\/w.heap.size<=q:=by
    intro q es hv
    have hv:(if w.heap.size<=q then (match w'.heap[q]? with|some (.map es _)=>some es|_=>none) else g'.obj q)=some es:=hv
    split at hv
    · exact .inr (by assumption)
    · exact .inl hv
   have hS1:=stp _ g g' _ w w' σ' hS hle hcell hobj
   have hG:=Zd3 (n:=w.heap.size) (B':=B) hI'
   obtain ⟨c1,c2',c3⟩:=M.dS.ok _ _ hx'
   have hI2:Inv E B (σ1 (rr,zz)) (one (M.dS.enc x')) (allG g' w.heap.size w') w':=by
    refine ⟨hG.gc,hG.gm,fun b y1 hy1=> ?_,fun b b' q z z' h1 h2 _ _=>by rw [Zbp h1,Zbp h2],fun b q z hs=>⟨(hI1.base b q z hs).1,Nat.lt_of_lt_of_le (hI1.base b q z hs).2 hS.size⟩,fun b y1 q z o v hy1 hs hv=> ?_,fun b y1 q z hy1 hs=> ?_,hG.glob⟩
    · obtain ⟨rfl,rfl⟩:=Vg hy1
      refine ⟨rr,zz,rfl,?_⟩
      obtain ⟨r2,z2,m1,arr,e,k1,k2,k3,k4,k5⟩:=hI'.blk 0 _ h0
      rw [hs0] at m1;cases m1
      have hl:cs'.length=c2.length:=o2.len
      refine ⟨arr,e,k1,k2,?_,fun j sv hj=> ?_,trivial⟩
      · simp only [Blk.cells] at k3⊢;omega
      · obtain ⟨s1,h1,h2⟩:=c3 σ0 (allG g' w.heap.size w') j sv hj
        have hjl:j<c2.length:=by rw [<-hl];exact (List.getElem?_eq_some_iff.1 h1).1
        obtain ⟨v,m1,m2⟩:=k4 j _ (List.getElem?_eq_getElem hjl)
        have:=o2.den _ σ' g' w' B _ (fun _ _=>rfl) hI' hle (hkept.sub fun b hb=>List.mem_append_right _ hb) j _ s1 v (List.getElem?_eq_getElem hjl) h1 m2
        exact ⟨v,m1,(h2 v this).mono (fun b p h=>by cases h) (.refl _)⟩
    · obtain ⟨_,e⟩:=σ1_some hs
      obtain ⟨rfl,rfl⟩:=Vg hy1
      cases e
      rcases hcell _ o v hv with h1|h1
      · have h2:o<0:=hI'.fz 0 (.raw c2 0 tg) _ _ o v h0 hs0 h1
        omega
      · omega
    · obtain ⟨_,e⟩:=σ1_some hs
      cases e
      cases hg':(allG g' w.heap.size w').obj rr with
      |none=>rfl
      |some es=>
       rcases hobj _ es hg' with h1|h1
       · rw [hI'.fm 0 _ _ _ h0 hs0] at h1;cases h1
       · omega
   obtain ⟨q1,q2⟩:=Wn hE (i:=1) (v:=M.v y) (v0:= .unk) (x':=some (M.dS.enc x')) hI (Zuk _) hσ rfl hS1 hI2 (fun c hc=>by cases hc;rfl) (fun c hc=>by cases hc;exact M.hS x')
   exact ⟨σ,_,q1,q2,(hdec v' y hy _ _ u hval).mono (fun b p h=>by cases h) (.refl _)⟩
end
end
end
section
open Go
inductive WK where
 |at_
 |ki
 |un
 |ca
def WK.src:WK->List Nat
 | .at_=> [116,121,112,101,32,111,119,110,101,114,32,114,97,105,108,119,97,121,32,115,104,105,112,112,101,114,32,99,108,97,115,115,32,119,101,105,103,104,116,32,107,109,32,109,105,110,117,116,101,115,32,119,111,114,107,105,110,103,32,99,111,100,101,32,119,111,114,116,104,32,99,111,115,116,32,109,111,110,116,104,32,98,101,103,105,110,32,112,97,114,116,115,32,112,97,114,116]
 | .ki=> [104,105,114,101,32,100,101,109,117,114,114,97,103,101,32,102,114,101,105,103,104,116,32,114,101,112,97,105,114,32,108,111,115,115,32,99,108,101,97,110,105,110,103]
 | .un=> [109,111,110,101,121,32,109,105,110,117,116,101,32,107,109,32,107,103]
 | .ca=> [109,105,110,32,109,97,120,32,100,111,119,110,32,117,112,32,104,97,108,102]
def WK.words:WK->List (List Nat)
 | .at_=> [[116,121,112,101],[111,119,110,101,114],[114,97,105,108,119,97,121],[115,104,105,112,112,101,114],[99,108,97,115,115],[119,101,105,103,104,116],[107,109],[109,105,110,117,116,101,115],[119,111,114,107,105,110,103],[99,111,100,101],[119,111,114,116,104],[99,111,115,116],[109,111,110,116,104],[98,101,103,105,110],[112,97,114,116,115],[112,97,114,116]]
 | .ki=> [[104,105,114,101],[100,101,109,117,114,114,97,103,101],[102,114,101,105,103,104,116],[114,101,112,97,105,114],[108,111,115,115],[99,108,101,97,110,105,110,103]]
 | .un=> [[109,111,110,101,121],[109,105,110,117,116,101],[107,109],[107,103]]
 | .ca=> [[109,105,110],[109,97,120],[100,111,119,110],[117,112],[104,97,108,102]]
theorem Ztw:Zj EL F0 (vc EL F0 2000) 24 [.str true (WK.src .at_)] hp0 0 (fun r=>ret EL (patch hp0 0 r) r.v (.psl .strs (WK.words .at_) false))=(WK.words .at_=WK.words .at_):=by kernel_rfl
theorem Ztx:Zj EL F0 (vc EL F0 2000) 24 [.str true (WK.src .ki)] hp0 0 (fun r=>ret EL (patch hp0 0 r) r.v (.psl .strs (WK.words .ki) false))=(WK.words .ki=WK.words .ki):=by kernel_rfl
theorem Zty:Zj EL F0 (vc EL F0 2000) 24 [.str true (WK.src .un)] hp0 0 (fun r=>ret EL (patch hp0 0 r) r.v (.psl .strs (WK.words .un) false))=(WK.words .un=WK.words .un):=by kernel_rfl
theorem Ztz:Zj EL F0 (vc EL F0 2000) 24 [.str true (WK.src .ca)] hp0 0 (fun r=>ret EL (patch hp0 0 r) r.v (.psl .strs (WK.words .ca) false))=(WK.words .ca=WK.words .ca):=by kernel_rfl
def wkOf (s:List Nat):Option WK:=
 match eqL s (WK.src .at_) with
 |true=>some .at_
 |false=>(match eqL s (WK.src .ki) with
  |true=>some .ki
  |false=>(match eqL s (WK.src .un) with
   |true=>some .un
   |false=>(match eqL s (WK.src .ca) with|true=>some .ca|false=>none)))
theorem Zq7 {s:List Nat} {k:WK} (h:wkOf s=some k):s=k.src:=by
 unfold wkOf at h
 repeat' split at h
 all_goals first|(cases h;rename_i e;exact Zv7 e)|cases h
theorem Zo4 (k:WK):PureC E 24 [.str true k.src] (.psl .strs k.words false):=by
 cases k
 · exact Zd5 (n:=2000) (by rw [Ztw])
 · exact Zd5 (n:=2000) (by rw [Ztx])
 · exact Zd5 (n:=2000) (by rw [Zty])
 · exact Zd5 (n:=2000) (by rw [Ztz])
def Zlr:List (SV thy)->Option (SV thy)
 | [.str true s]=>(match wkOf s with|some k=>some (.psl .strs k.words false)|none=>none)
 |_=>none
noncomputable def Zy2:Sum thy:=sumO Zlr
theorem Zt0:SumOk E 24 Zy2:=Zda E_ok (Zc rfl) fun args v h=>by
 unfold Zlr at h
 split at h
 · split at h
   · rename_i k hk
     cases h
     rw [Zq7 hk]
     exact Zo4 k
   · cases h
 · cases h
def idxS (s:List Nat):Nat->List (List Nat)->Int
 |_,[]=> -1
 |k,x::r=>if s=x then (k:Int) else idxS s (k+1) r
theorem Zy3 {s:List Nat} {l:List (List Nat)}:∀{k:Nat} {x:List Nat},l[k]? =some x->idxS s k (l.drop k)=if s=x then (k:Int) else idxS s (k+1) (l.drop (k+1)):=by
 intro k x h
 have hlt:=(List.getElem?_eq_some_iff.1 h).1
 rw [List.drop_eq_getElem_cons hlt]
 have:l[k]=x:=(List.getElem?_eq_some_iff.1 h).2
 rw [this];rfl
def Aixs:Fr thy->Hp thy->Nat->Ann thy:=fun T h i=>{X:=LX,fr:=fun x=> [(0,T 0),(1,T 1),(7,T 7),(8,.int false .i64 x.k)],bl:=fun x=> [],src:=fun _=> [],md:= [],ih:=i,M:=i+30,meas:=fun x=>x.r}
noncomputable def Fixs:Fns thy:=addL F0 96 2 Aixs E
theorem Z2x (l:List (List Nat)) (s:List Nat) (v:Int):Zj E Fixs (vc E Fixs 400) 96 [.psl Th.strs l false,.str false s] hp0 0 (fun r=>ret E (patch hp0 0 r) r.v (.int false .i64 v))=(
∃(R:LX->Prop),(∃(x:LX),R x/\true=true/\((l=l/\(false=true->false=true))/\s=s/\(↑(List.length l):Int)=(↑(List.length l):Int)/\(0:Int)=(↑(LX.k x):Int)/\True)/\True)/\∀(x:LX),R x->(decide ((↑(LX.k x):Int)<(↑(List.length l):Int))=true->(0:Int)<=(↑(LX.k x):Int)/\(↑(LX.k x):Int)+(1:Int)<=(↑(List.length l):Int)/\∀(x_1:List Nat),l[Int.toNat (↑(LX.k x):Int)]? =some x_1->((s==x_1)=true->(↑(LX.k x):Int)=v)/\((s==x_1)=false->∃(x_2:LX),R x_2/\x_2.2+(1:Nat)<=x.2/\true=true/\((l=l/\(false=true->false=true))/\s=s/\(↑(List.length l):Int)=(↑(List.length l):Int)/\wr IntKind.i64 ((↑(LX.k x):Int)+(1:Int))=(↑(LX.k x_2):Int)/\True)/\True))/\(decide ((↑(LX.k x):Int)<(↑(List.length l):Int))=false->(-1:Int)=v)):=by kernel_rfl
theorem Z2y (l:List (List Nat)) (s:List Nat) (hl:l.length<=1000000000):PureC E 96 [.psl Th.strs l false,.str false s] (.int false .i64 (idxS s 0 l)):=by
 have hF:FnsOk E Fixs:=Ym E_ok F0_ok _ _ _
 refine Zb E_ok (Zh E_ok hF 400) ?_
 rw [Z2x]
 simp only [and_true,true_and,decide_eq_true_eq,decide_eq_false_iff_not,beq_iff_eq,beq_eq_false_iff_ne,imp_self]
 refine ⟨fun x=>x.k<=l.length/\idxS s x.k (l.drop x.k)=idxS s 0 l/\x.r=l.length-x.k,⟨⟨0,l.length,[],0⟩,⟨(by dsimp only;omega),rfl,rfl⟩,rfl⟩,?_⟩
 rintro x ⟨hk,hv,hr⟩
 refine And.intro (fun hq=>⟨by omega,by omega,fun y hy=> ?_⟩) (fun hq=> ?_)
 · have hy:l[x.k]? =some y:=hy
   rw [Zy3 hy] at hv
   refine ⟨fun e=> ?_,fun e=> ?_⟩
   · rw [if_pos e] at hv;exact hv
   · rw [if_neg e] at hv
     exact ⟨⟨x.k+1,l.length-(x.k+1),[],0⟩,⟨(by dsimp only;omega),hv,rfl⟩,by show l.length-(x.k+1)+1<=x.r;omega,wr64 (by omega) (by omega)⟩
 · rw [List.drop_eq_nil_of_le (by omega)] at hv
   exact hv
noncomputable def Sixs:Sum thy:=Zal (dA2 (Zw8 (E:=E) Th.strs:Dc E (List (thy.dom Th.strs))) dS) (fun x=>x.1.length<=1000000000) (fun x=>idxS x.2.1 0 x.1) fun y=> .int false .i64 y
theorem Z7q:SumOk E 96 Sixs:=Yj E_ok (Zc (f:=96) rfl) fun x h=>Z2y x.1 x.2.1 h
end
section
open Go
def powV (n:Int):SV thy:= .agg [.fn (.func 81) [] [.pptr .ints n 0]]
theorem Zwj (K:SV thy->Option (Blk thy)->Prop):Zj EL F0 (vc EL F0 2000) 54 [.int true .i64 1] hp0 0 (fun r=>K r.v (patch hp0 0 r 0))=K (.agg [.fn (.func 81) [] [.ptr 0 0]]) (some (.raw [.int true .i64 1] 0 none)):=by kernel_rfl
theorem Zwk (K:SV thy->Option (Blk thy)->Prop):Zj EL F0 (vc EL F0 2000) 54 [.int true .i64 (-1)] hp0 0 (fun r=>K r.v (patch hp0 0 r 0))=K (.agg [.fn (.func 81) [] [.ptr 0 0]]) (some (.raw [.int true .i64 (-1)] 0 none)):=by kernel_rfl
theorem Zwl {h:Hp thy} {n:Int} (hb:h 0=some (.raw [.int true .i64 n] 0 none)):Frz EL h (.agg [.fn (.func 81) [] [.ptr 0 0]]) (powV n):=by
 refine .agg rfl fun j x x' h1 h2=> ?_
 cases j with
 |succ j=>simp at h1
 |zero=>
  cases h1;cases h2
  refine .fn rfl rfl (fun j x x' h1 h2=>by simp at h1) fun j x x' h1 h2=> ?_
  cases j with
  |succ j=>simp at h1
  |zero=>
   cases h1;cases h2
   exact .ptr hb rfl
theorem Zko {n:Int} (hn:n=1\/n= -1):PureC EL 54 [.int true .i64 n] (powV n):=by
 rcases hn with rfl|rfl
 · exact Zbf V5 (Z67 2000) (K:=fun r=>r.v= .agg [.fn (.func 81) [] [.ptr 0 0]]/\patch hp0 0 r 0=some (.raw [.int true .i64 1] 0 none)) (fun r hr=>by rw [hr.1];exact Zwl hr.2) (by rw [Zwj fun v b=>v=_/\b=_];exact ⟨rfl,rfl⟩)
 · exact Zbf V5 (Z67 2000) (K:=fun r=>r.v= .agg [.fn (.func 81) [] [.ptr 0 0]]/\patch hp0 0 r 0=some (.raw [.int true .i64 (-1)] 0 none)) (fun r hr=>by rw [hr.1];exact Zwl hr.2) (by rw [Zwk fun v b=>v=_/\b=_];exact ⟨rfl,rfl⟩)
def Z3g:List (SV thy)->Option (SV thy)
 | [.int true .i64 (.ofNat 1)]=>some (powV 1)
 | [.int true .i64 (.negSucc 0)]=>some (powV (-1))
 |_=>none
noncomputable def F1:Fns thy:=addS F0 54 (sumO Z3g)
theorem Z3h:FnsOk EL F1:=Zd Zqw (Zda V5 (Zc rfl) fun args v h=>by
 unfold Z3g at h
 split at h
 · cases h;exact Zko (.inl rfl)
 · cases h;exact Zko (.inr rfl)
 · cases h)
theorem Z9b (n:Nat):Wo EL (Zj EL F1 (vc EL F1 n)):=X4 V5 Z3h fun f N c=>(Zjt V5 Z3h n f N c).1
def Yf:List (Value×SV thy):= [(.int .i64 3,.agg [.fn (.func 52) [] []]),(.int .i64 4,.agg [.fn (.func 52) [] []]),(.int .i64 6,.agg [.fn (.func 52) [] []]),(.int .i64 7,.agg [.fn (.func 52) [] []]),
 (.int .i64 5,powV 1),(.int .i64 8,powV (-1)),(.int .i64 9,powV (-1)),(.int .i64 10,powV (-1)),(.int .i64 11,.agg [.fn (.func 53) [] []])]
def Xb:SV thy:= .pmap Yf
theorem Zr4 (K:SV thy->Prop):Zj EL F1 (vc EL F1 2000) 21 [] hp0 0 (fun r=>K r.v)=K Xb:=by kernel_rfl
theorem Zm1:PureC EL 21 [] Xb:=
 Zbf V5 (Z9b 2000) (K:=fun r=>r.v=Xb) (fun r hr=>by rw [hr];exact .same rfl) (by rw [Zr4 fun v=>v=Xb])
theorem Zr5:PureC E 21 [] Xb:=PureC.like Zs8 Zs7 (fun _ _ h=>h) Zm1
def Zih:List (SV thy)->Option (SV thy)
 | []=>some Xb
 |_=>none
end
section
open Go
theorem Ex.eta (x:Ex):Ex.mk x.op x.n x.d0 x.d1 x.d2 x.d3 x.l=x:=by cases x;rfl
theorem Tst.eta (x:Tst):Tst.mk x.attr x.low x.high=x:=rfl
theorem Cls.eta (x:Cls):Cls.mk x.name x.when_ x.pay=x:=rfl
def Ex.u (x:Ex):List Int:= [x.d0,x.d1,x.d2,x.d3]
mutual
def Ex.sz:Ex->Nat
 | .mk _ _ _ _ _ _ l=>Ex.szL l+1
def Ex.szL:List Ex->Nat
 | []=>0
 |x::r=>x.sz+Ex.szL r
end
theorem Ex.sz_eq (x:Ex):x.sz=Ex.szL x.l+1:=by cases x;simp only [Ex.sz,Ex.l]
theorem Ex.sz_pos (x:Ex):0<x.sz:=by rw [Ex.sz_eq];omega
theorem Ex.szL_mem:∀{l:List Ex} {x:Ex},x∈l->x.sz<=Ex.szL l
 |y::r,x,h=>by
  rw [Ex.szL]
  rcases List.mem_cons.1 h with rfl|h
  · omega
  · have:=Ex.szL_mem h;omega
theorem Ex.sz_mem {x y:Ex} (h:y∈x.l):y.sz<x.sz:=by
 have:=Ex.szL_mem h
 rw [Ex.sz_eq x];omega
theorem Ex.szL_len:∀(l:List Ex),l.length<=Ex.szL l
 | []=>Nat.le_refl _
 |x::r=>by
  have:=Ex.szL_len r
  have:=x.sz_pos
  rw [Ex.szL,List.length_cons];omega
mutual
def Zx:Ex->Nat
 | .mk _ _ _ _ _ _ l=>Zdt l+1
def Zdt:List Ex->Nat
 | []=>0
 |x::r=>max (Zx x) (Zdt r)
end
theorem Z2f (x:Ex):Zx x=Zdt x.l+1:=by cases x;simp only [Zx,Ex.l]
mutual
theorem Zq2:∀(x:Ex),Zx x<=x.sz
 | .mk _ _ _ _ _ _ l=>by have:=Zq3 l;simp only [Zx,Ex.sz];omega
theorem Zq3:∀(l:List Ex),Zdt l<=Ex.szL l
 | []=>Nat.le_refl _
 |x::r=>by have:=Zq2 x;have:=Zq3 r;simp only [Zdt,Ex.szL];omega
end
def cnt (u:List Int) (n:Int):Nat:=(u.filter fun d=>d==n).length
def Zc9 (u:List Int):Bool:=decide (cnt u 0+cnt u 1+cnt u (-1)=4)&&decide (cnt u 1<=1)&&decide (cnt u (-1)<=1)
def Zlm (op:Int):Nat:=if op=1\/op=2 then 0 else if op=11 then 4 else 2
def Z2g (op:Int):Int:=if op=1 then 1099511627776 else if op=2 then 15 else 0
def Zcm (op n:Int) (u:List Int) (k:Nat):Bool:=
 decide (1<=op)&&decide (op<=11)&&decide (0<=n)&&decide (n<=Z2g op)&&decide (k=Zlm op)&&Zc9 u&&(decide (op=1)||decide (u= [0,0,0,0]))
mutual
def Yh:Ex->Bool
 | .mk op n d0 d1 d2 d3 l=>Zcm op n [d0,d1,d2,d3] l.length&&W3 l
def W3:List Ex->Bool
 | []=>true
 |x::r=>Yh x&&W3 r
end
theorem Zq4 (x:Ex):Yh x=(Zcm x.op x.n x.u x.l.length&&W3 x.l):=by cases x;simp only [Yh,Ex.op,Ex.n,Ex.u,Ex.d0,Ex.d1,Ex.d2,Ex.d3,Ex.l]
theorem formL_iff:∀{l:List Ex},W3 l=true↔∀x∈l,Yh x=true
 | []=>by simp [W3]
 |x::r=>by simp [W3,formL_iff (l:=r)]
theorem Zti {l:List Ex} {k:Nat} {y:Ex} (h:l[k]? =some y):W3 (l.drop k)=(Yh y&&W3 (l.drop (k+1))):=by
 have hk:=(List.getElem?_eq_some_iff.1 h).1
 have:l.drop k=y::l.drop (k+1):=by rw [List.drop_eq_getElem_cons hk];congr 1;exact (List.getElem?_eq_some_iff.1 h).2
 rw [this,W3]
def Zoy (n:Int):List Int:=if n=5 then [0,0,0,1] else if n=6 then [0,0,1,0] else if n=7\/n=8 then [0,1,0,0] else if n=10\/n=11 then [1,0,0,0] else [0,0,0,0]
def cmb1 (s a b:Int):Int:=IntKind.i64.wrap (a+IntKind.i64.wrap (s*b))
def in3 (a:Int):Bool:= !(decide (a< -3)||decide (a>3))
def cmb (s:Int) (a b:List Int):Option (List Int):=
 if in3 (cmb1 s (a.getD 0 0) (b.getD 0 0))&&in3 (cmb1 s (a.getD 1 0) (b.getD 1 0))&&in3 (cmb1 s (a.getD 2 0) (b.getD 2 0))&&in3 (cmb1 s (a.getD 3 0) (b.getD 3 0)) then
  some [cmb1 s (a.getD 0 0) (b.getD 0 0),cmb1 s (a.getD 1 0) (b.getD 1 0),cmb1 s (a.getD 2 0) (b.getD 2 0),cmb1 s (a.getD 3 0) (b.getD 3 0)] else none
def Wl (op:Int) (ds:List (List Int)):Option (List Int):=
 if op=5 then cmb 1 (ds.getD 0 []) (ds.getD 1 [])
 else if op=8\/op=9\/op=10 then cmb (-1) (ds.getD 0 []) (ds.getD 1 [])
 else if op=11 then (if ds.getD 0 []=ds.getD 1 []/\ds.getD 2 []=ds.getD 3 [] then some (ds.getD 2 []) else none)
 else if ds.getD 0 []=ds.getD 1 [] then some (ds.getD 0 []) else none
mutual
def V6:Ex->Option (List Int)
 | .mk op n d0 d1 d2 d3 l=>if op=1 then some [d0,d1,d2,d3] else if op=2 then some (Zoy n) else (X1 l).bind (Wl op)
def X1:List Ex->Option (List (List Int))
 | []=>some []
 |x::r=>(V6 x).bind fun d=>(X1 r).bind fun ds=>some (d::ds)
end
theorem Z2h (x:Ex):V6 x=if x.op=1 then some x.u else if x.op=2 then some (Zoy x.n) else (X1 x.l).bind (Wl x.op):=by
 cases x
 rw [V6]
 rfl
def Is4 (d:List Int):Prop:=∃a b c e,d= [a,b,c,e]
theorem Z7j (n:Int):Is4 (Zoy n):=by
 unfold Zoy
 split
 · exact ⟨_,_,_,_,rfl⟩
 split
 · exact ⟨_,_,_,_,rfl⟩
 split
 · exact ⟨_,_,_,_,rfl⟩
 split<;>exact ⟨_,_,_,_,rfl⟩
theorem Yaf {s:Int} {a b d:List Int} (h:cmb s a b=some d):Is4 d:=by
 unfold cmb at h
 split at h
 · cases h;exact ⟨_,_,_,_,rfl⟩
 · cases h
theorem unitL_cons {x:Ex} {r:List Ex} {ds:List (List Int)}:X1 (x::r)=some ds↔∃d ds',V6 x=some d/\X1 r=some ds'/\ds=d::ds':=by
 rw [X1]
 simp only [Option.bind_eq_some_iff,Option.some.injEq]
 constructor
 · rintro ⟨d,h1,ds',h2,rfl⟩;exact ⟨d,ds',h1,h2,rfl⟩
 · rintro ⟨d,ds',h1,h2,rfl⟩;exact ⟨d,h1,ds',h2,rfl⟩
theorem Zfy:∀{l:List Ex} {ds:List (List Int)},X1 l=some ds->ds.length=l.length
 | [],ds,h=>by simp only [X1] at h;cases h;rfl
 |x::r,ds,h=>by
  obtain ⟨d,ds',_,h2,rfl⟩:=unitL_cons.1 h
  simp [Zfy h2]
theorem Z7k {op:Int} {ds:List (List Int)} {d:List Int} (h:Wl op ds=some d) (h4:∀i,i<(if op=11 then 4 else 2)->Is4 (ds.getD i [])):Is4 d:=by
 unfold Wl at h
 split at h
 · exact Yaf h
 · split at h
   · exact Yaf h
   · split at h
     · rename_i h11
       split at h
       · cases h
         exact h4 2 (by rw [if_pos h11];omega)
       · cases h
     · rename_i h11
       split at h
       · cases h
         exact h4 0 (by rw [if_neg h11];omega)
       · cases h
mutual
theorem Zoz:∀(x:Ex) {d:List Int},Yh x=true->V6 x=some d->Is4 d
 | .mk op n d0 d1 d2 d3 l,d,hf,h=>by
  rw [V6] at h
  split at h
  · cases h;exact ⟨_,_,_,_,rfl⟩
  · split at h
    · cases h;exact Z7j n
    · rename_i h1 h2
      obtain ⟨ds,hds,h⟩:=Option.bind_eq_some_iff.1 h
      refine Z7k h fun i hi=> ?_
      simp only [Yh,Bool.and_eq_true] at hf
      have hl:=Zyr l hf.2 hds
      have hlen:=Zfy hds
      have ha:l.length=Zlm op:=by
       have:=hf.1
       simp only [Zcm,Bool.and_eq_true,decide_eq_true_eq] at this
       exact this.1.1.2
      unfold Zlm at ha
      rw [if_neg (by omega)] at ha
      have:i<ds.length:=by rw [hlen,ha];exact hi
      rw [List.getD_eq_getElem?_getD,List.getElem?_eq_getElem this]
      exact hl _ (List.getElem_mem this)
theorem Zyr:∀(l:List Ex) {ds:List (List Int)},W3 l=true->X1 l=some ds->∀d∈ds,Is4 d
 | [],ds,_,h=>by simp only [X1] at h;cases h;simp
 |x::r,ds,hf,h=>by
  simp only [W3,Bool.and_eq_true] at hf
  obtain ⟨d,ds',h1,h2,rfl⟩:=unitL_cons.1 h
  intro e he
  rcases List.mem_cons.1 he with rfl|he
  · exact Zoz x hf.1 h1
  · exact Zyr r hf.2 h2 e he
end
end
section
open Go
def exA (x:Ex):SV thy:= .agg (encF false .exprs x)
noncomputable def dExp:DcL E (Ex×Unit):= .cons (dR .exprs) .nil
noncomputable def Z85:DcL E (Ex×Int×Unit):= .cons (dR .exprs) (.cons (dInt (E:=E) .i64) .nil)
noncomputable def Ya3 (m:Nat):Sum thy:=sumP Z85 (fun x=>x.1.sz<m/\1<=x.2.1/\x.2.1<=1000) fun x=> .int false .i64 (min (x.1.sz:Int) x.2.1)
def Ya4:Fr thy->Hp thy->Nat->Ann thy:=fun T h i=>{X:=DX,fr:=fun x=> [(1,T 1),(2,T 2),(5,.int false .i64 x.j),(6,.int false .i64 x.k)],bl:=fun x=>blkP h (T 2),src:=fun _=> [],md:= [],ih:=i,M:=i+30,meas:=fun x=>x.r}
noncomputable def Z86 (m:Nat):Fns thy:=addL (addS F0 47 (Ya3 m)) 47 3 Ya4 E
abbrev qBA1 (a0:Ex):=(Ex.op a0=Ex.op a0/\Ex.n a0=Ex.n a0/\Ex.d0 a0=Ex.d0 a0/\Ex.d1 a0=Ex.d1 a0/\Ex.d2 a0=Ex.d2 a0/\Ex.d3 a0=Ex.d3 a0/\(Ex.l a0=Ex.l a0/\(false=true->false=true))/\True)
abbrev qBA2 (a0:Ex):=(Ex.mk (Ex.op a0) (Ex.n a0) (Ex.d0 a0) (Ex.d1 a0) (Ex.d2 a0) (Ex.d3 a0) (Ex.l a0))
abbrev qBA3 (a0:DX):=(↑(DX.k a0):Int)
theorem Zv3 (m:Nat) (x:Ex) (lim:Int) (v:Int):Zj E F0 (vc E (Z86 m) 400) 47 [exA x,.int false .i64 lim] hp0 0 (fun r=>ret E (patch hp0 0 r) r.v (.int false .i64 v))=(
 ∃(R:DX->Prop),(∃(x_1:DX),R x_1/\true=true/\(lim=lim/\(0:Nat)=(0:Nat)/\(1:Int)=DX.j x_1/\(0:Int)=(qBA3 x_1)/\True)/\(qBA1 x)/\True)/\∀(x_1:DX),R x_1->∃(Q:Bool->Prop),((decide ((qBA3 x_1)<(↑(List.length (Ex.l x)):Int))=true->(decide (DX.j x_1<lim)=true->Q true)/\(decide (DX.j x_1<lim)=false->Q false))/\(decide ((qBA3 x_1)<(↑(List.length (Ex.l x)):Int))=false->Q false))/\(Q true->(0:Int)<=(qBA3 x_1)/\(qBA3 x_1)+(1:Int)<=(↑(List.length (Ex.l x)):Int)/\∀(x_2:Ex),(Ex.l x)[Int.toNat (qBA3 x_1)]? =some x_2->(Ex.sz (qBA2 x_2)+(1:Nat)<=m/\(1:Int)<=wr IntKind.i64 (lim-DX.j x_1)/\wr IntKind.i64 (lim-DX.j x_1)<=(1000:Int))/\∃(x':DX),R x'/\x'.2+(1:Nat)<=x_1.2/\true=true/\(lim=lim/\(0:Nat)=(0:Nat)/\wr IntKind.i64 (DX.j x_1+min (↑(Ex.sz (qBA2 x_2)):Int) (wr IntKind.i64 (lim-DX.j x_1)))=DX.j x'/\wr IntKind.i64 ((qBA3 x_1)+(1:Int))=(qBA3 x')/\True)/\(qBA1 x)/\True)/\(Q false->DX.j x_1=v)):=by kernel_rfl
theorem Ws {α:Type} {l:List α} {k:Nat} {y:α} (h:l[k]? =some y):l.drop k=y::l.drop (k+1):=by
 have hk:=(List.getElem?_eq_some_iff.1 h).1
 rw [List.drop_eq_getElem_cons hk];congr 1;exact (List.getElem?_eq_some_iff.1 h).2
theorem Wt {α:Type} {l:List α} {k:Nat} (h:l.length<=k):l.drop k= []:=List.drop_eq_nil_of_le h
theorem Z0i:∀(m:Nat) (x:Ex) (lim:Int),x.sz<=m->1<=lim->lim<=1000->PureC E 47 [exA x,.int false .i64 lim] (.int false .i64 (min (x.sz:Int) lim)):=by
 intro m
 induction m with
 |zero=>intro x lim h;have:=x.sz_pos;omega
 |succ m ih=>
  intro x lim hm h1 h2
  have hF:FnsOk E (Z86 (m+1)):=Ym E_ok (Zd F0_ok (Yg E_ok (Zc (f:=47) rfl) fun x h=>ih x.1 x.2.1 (by have:=h.1;omega) h.2.1 h.2.2)) _ _ _
  refine Zb E_ok (X4 E_ok F0_ok fun f N c=>(Zjt E_ok hF 400 f N c).1) ?_
  rw [Zv3];delta qBA1 qBA2 qBA3
  simp only [Yk,Z0,Wu,Wv,Ww,beq_iff_eq,bne_iff_ne,beq_eq_false_iff_ne,bne_eq_false_iff_eq,decide_eq_true_eq,decide_eq_false_iff_not,Bool.or_eq_true,Bool.or_eq_false_iff,Bool.not_eq_true',Bool.not_eq_false',Bool.and_eq_true,Bool.and_true,Bool.true_and,Bool.and_eq_false_iff,beq_self_eq_true,Xc,Y4,ne_eq,and_true,true_and,Bool.true_eq_false,Bool.false_eq_true,false_or,or_false,true_implies,imp_self,Int.ofNat_eq_natCast,not_true_eq_false,not_false_eq_true,Decidable.not_not,Ex.eta]
  have hsz:=x.sz_eq
  have hlen:=Ex.szL_len x.l
  refine ⟨fun y=>y.k<=x.l.length/\(y.k:Int)+1<=y.j/\y.j<=lim/\min (y.j+(Ex.szL (x.l.drop y.k):Int)) lim=min (x.sz:Int) lim/\y.r=x.l.length-y.k,⟨⟨0,x.l.length,[],[],0,0,0,1⟩,⟨(by dsimp only;omega),(by dsimp only;omega),h1,by dsimp only;rw [List.drop_zero];omega,rfl⟩,rfl,rfl⟩,?_⟩
  rintro y ⟨hk,hj1,hj2,hv,hr⟩
  refine ⟨fun b=>b=true↔(y.k<x.l.length/\y.j<lim),⟨fun h3=>⟨fun h4=>by simp;omega,fun h4=>by simp;omega⟩,fun h3=>by simp;omega⟩,fun hq=> ?_,fun hq=> ?_⟩
  · have hq:=hq.1 rfl
    refine ⟨by omega,by omega,fun z hz=> ?_⟩
    have hz:x.l[y.k]? =some z:=hz
    have hzs:=Ex.sz_mem (List.mem_of_getElem? hz)
    rw [Ws hz,Ex.szL] at hv
    have hzp:=z.sz_pos
    rw [wr64 (n:=lim-y.j) (by omega) (by omega),wr64 (n:=(y.k:Int)+1) (by omega) (by omega),wr64 (n:=y.j+min (z.sz:Int) (lim-y.j)) (by omega) (by omega)]
    exact ⟨⟨by omega,by omega,by omega⟩,⟨y.k+1,x.l.length-(y.k+1),[],[],0,0,0,y.j+min (z.sz:Int) (lim-y.j)⟩,⟨(by dsimp only;omega),(by dsimp only;omega),(by dsimp only;omega),(by dsimp only;omega),rfl⟩,by show x.l.length-(y.k+1)+1<=y.r;omega,rfl,rfl⟩
  · have hq:¬(y.k<x.l.length/\y.j<lim):=fun h=>by have:=hq.2 h;simp at this
    by_cases h3:y.j<lim
    · rw [Wt (by omega)] at hv
      simp only [Ex.szL] at hv
      omega
    · have:=Int.le_antisymm hj2 (by omega)
      omega
noncomputable def Ya5 (m:Nat):Sum thy:=sumP dExp (fun x=>x.1.sz<m) fun x=> .int false .i64 (Zx x.1:Int)
def Ya6:Fr thy->Hp thy->Nat->Ann thy:=fun T h i=>{X:=DX,fr:=fun x=> [(3,.int false .i64 x.j),(7,T 7),(8,T 8),(9,.int false .i64 x.k)],bl:=fun x=> [],src:=fun _=> [],md:= [],ih:=i,M:=i+30,meas:=fun x=>x.r}
noncomputable def Z87 (m:Nat):Fns thy:=addL (addS F0 51 (Ya5 m)) 51 3 Ya6 E
theorem Zv4 (m:Nat) (x:Ex) (v:Int):Zj E F0 (vc E (Z87 m) 400) 51 [exA x] hp0 0 (fun r=>ret E (patch hp0 0 r) r.v (.int false .i64 v))=(
∃(R:DX->Prop),(∃(x_1:DX),R x_1/\true=true/\((0:Int)=DX.j x_1/\(Ex.l x=Ex.l x/\(false=true->false=true))/\(↑(List.length (Ex.l x)):Int)=(↑(List.length (Ex.l x)):Int)/\(0:Int)=(↑(DX.k x_1):Int)/\True)/\True)/\∀(x_1:DX),R x_1->(decide ((↑(DX.k x_1):Int)<(↑(List.length (Ex.l x)):Int))=true->(0:Int)<=(↑(DX.k x_1):Int)/\(↑(DX.k x_1):Int)+(1:Int)<=(↑(List.length (Ex.l x)):Int)/\∀(x_2:Ex),(Ex.l x)[Int.toNat (↑(DX.k x_1):Int)]? =some x_2->Ex.sz (Ex.mk (Ex.op x_2) (Ex.n x_2) (Ex.d0 x_2) (Ex.d1 x_2) (Ex.d2 x_2) (Ex.d3 x_2) (Ex.l x_2))+(1:Nat)<=m/\∃(x':DX),R x'/\x'.2+(1:Nat)<=x_1.2/\true=true/\(mm2 true (DX.j x_1) (↑(Zx (Ex.mk (Ex.op x_2) (Ex.n x_2) (Ex.d0 x_2) (Ex.d1 x_2) (Ex.d2 x_2) (Ex.d3 x_2) (Ex.l x_2))):Int)=DX.j x'/\(Ex.l x=Ex.l x/\(false=true->false=true))/\(↑(List.length (Ex.l x)):Int)=(↑(List.length (Ex.l x)):Int)/\wr IntKind.i64 ((↑(DX.k x_1):Int)+(1:Int))=(↑(DX.k x'):Int)/\True)/\True)/\(decide ((↑(DX.k x_1):Int)<(↑(List.length (Ex.l x)):Int))=false->wr IntKind.i64 (DX.j x_1+(1:Int))=v)):=by kernel_rfl
theorem Zrx {l:List Ex} {k:Nat} {y:Ex} (h:l[k]? =some y):Zdt (l.drop k)=max (Zx y) (Zdt (l.drop (k+1))):=by rw [Ws h,Zdt]
theorem Z0j:∀(m:Nat) (x:Ex),x.sz<=m->m<=1000000000000->PureC E 51 [exA x] (.int false .i64 (Zx x:Int)):=by
 intro m
 induction m with
 |zero=>intro x h;have:=x.sz_pos;omega
 |succ m ih=>
  intro x hm hb
  have hF:FnsOk E (Z87 (m+1)):=Ym E_ok (Zd F0_ok (Yg E_ok (Zc (f:=51) rfl) fun x h=>ih x.1 (by omega) (by omega))) _ _ _
  refine Zb E_ok (X4 E_ok F0_ok fun f N c=>(Zjt E_ok hF 400 f N c).1) ?_
  rw [Zv4]
  simp only [Yk,Z0,Wu,Wv,Ww,beq_iff_eq,bne_iff_ne,beq_eq_false_iff_ne,bne_eq_false_iff_eq,decide_eq_true_eq,decide_eq_false_iff_not,Bool.or_eq_true,Bool.or_eq_false_iff,Bool.not_eq_true',Bool.not_eq_false',Bool.and_eq_true,Bool.and_true,Bool.true_and,Bool.and_eq_false_iff,beq_self_eq_true,Xc,Y4,ne_eq,and_true,true_and,Bool.true_eq_false,Bool.false_eq_true,false_or,or_false,true_implies,imp_self,Int.ofNat_eq_natCast,not_true_eq_false,not_false_eq_true,Decidable.not_not,Ex.eta]
  have hsz:=x.sz_eq
  have hlen:=Ex.szL_len x.l
  have hnx:=Z2f x
  have hns:=Zq2 x
  refine ⟨fun y=>y.k<=x.l.length/\0<=y.j/\max y.j (Zdt (x.l.drop y.k):Int)=(Zdt x.l:Int)/\y.r=x.l.length-y.k,⟨⟨0,x.l.length,[],[],0,0,0,0⟩,⟨(by dsimp only;omega),(by dsimp only;omega),by dsimp only;rw [List.drop_zero];omega,rfl⟩,rfl,rfl⟩,?_⟩
  rintro y ⟨hk,hj1,hv,hr⟩
  refine And.intro (fun hq=> ?_) (fun hq=> ?_)
  · refine ⟨by omega,by omega,fun z hz=> ?_⟩
    have hz:x.l[y.k]? =some z:=hz
    have hzs:=Ex.sz_mem (List.mem_of_getElem? hz)
    rw [Zrx hz] at hv
    rw [wr64 (n:=(y.k:Int)+1) (by omega) (by omega)]
    exact ⟨by omega,⟨y.k+1,x.l.length-(y.k+1),[],[],0,0,0,max y.j (Zx z:Int)⟩,⟨(by dsimp only;omega),(by dsimp only;omega),(by dsimp only;omega),rfl⟩,by show x.l.length-(y.k+1)+1<=y.r;omega,rfl,rfl⟩
  · rw [Wt (by omega)] at hv
    simp only [Zdt] at hv
    rw [wr64 (by omega) (by omega)]
    omega
def dimA (a b c d:Int):SV thy:= .agg [.int false .i64 a,.int false .i64 b,.int false .i64 c,.int false .i64 d]
structure WX where
 k:Nat
 r:Nat
 m:List (Int×Int)
noncomputable def Ya7:Fr thy->Hp thy->Nat->Ann thy:=fun T h i=>{X:=WX,fr:=fun x=> [(3,T 3),(7,T 7),(8,.int false .i64 x.k)],bl:=fun x=> [(bOf (T 3),.map (Y9 .i64 (Xw E Th.ints false) x.m))],src:=fun _=> [],md:= [bOf (T 3)],ih:=i,M:=i+30,meas:=fun x=>x.r}
noncomputable def Z5n:Fns thy:=addL F0 78 3 Ya7 E
noncomputable abbrev qBA4:=(Xw E Th.ints (Zf (TypeDesc.int IntKind.i64)))
noncomputable abbrev qBA7:=(0:Int)
noncomputable abbrev qBA5 (a0:Int) (b0:Int) (c0:Int) (d0:Int):=(List.getD [a0,b0,c0,d0] (0:Nat) qBA7=List.getD [a0,b0,c0,d0] (0:Nat) qBA7/\List.getD [a0,b0,c0,d0] (1:Nat) qBA7=List.getD [a0,b0,c0,d0] (1:Nat) qBA7/\List.getD [a0,b0,c0,d0] (2:Nat) qBA7=List.getD [a0,b0,c0,d0] (2:Nat) qBA7/\List.getD [a0,b0,c0,d0] (3:Nat) qBA7=List.getD [a0,b0,c0,d0] (3:Nat) qBA7/\True)
noncomputable abbrev qBA6:=(Xw E Th.ints false)
noncomputable abbrev qBA8 (a0:WX):=(↑(WX.k a0):Int)
noncomputable abbrev qBA9:=(1:Int)
theorem Zv5 (a b c d:Int) (v:Bool):Zj E Z5n (vc E Z5n 400) 78 [dimA a b c d] hp0 0 (fun r=>ret E (patch hp0 0 r) r.v (.bool false v))=(
 (4:Nat)=(4:Nat)/\∃(R:WX->Prop),(∃(x:WX),R x/\true=true/\(True/\(qBA5 a b c d)/\qBA7=(qBA8 x)/\True)/\([]=Y9 IntKind.i64 qBA6 (WX.m x)/\true=true)/\True)/\∀(x:WX),R x->(decide ((qBA8 x)<(4:Int))=true->qBA7<=(qBA8 x)/\(qBA8 x)+qBA9<=(↑(4:Nat):Int)/\∀(y:Int),[List.getD [a,b,c,d] (0:Nat) qBA7,List.getD [a,b,c,d] (1:Nat) qBA7,List.getD [a,b,c,d] (2:Nat) qBA7,List.getD [a,b,c,d] (3:Nat) qBA7][Int.toNat (qBA8 x)]? =some y->∃(l:List (Int×Int)),Y9 IntKind.i64 qBA6 (WX.m x)=Y9 IntKind.i64 qBA4 l/\∀(y_1:Int),y_1=Option.getD (Yt l y) qBA7->∃(l:List (Int×Int)),Y9 IntKind.i64 qBA6 (WX.m x)=Y9 IntKind.i64 qBA4 l/\∃(x':WX),R x'/\x'.2+(1:Nat)<=x.2/\true=true/\(True/\(qBA5 a b c d)/\wr IntKind.i64 ((qBA8 x)+qBA9)=(qBA8 x')/\True)/\(Y9 IntKind.i64 qBA4 (putS l y (wr IntKind.i64 (y_1+qBA9)))=Y9 IntKind.i64 qBA6 (WX.m x')/\nidE (0:Nat) (Y9 IntKind.i64 qBA4 (putS l y (wr IntKind.i64 (y_1+qBA9))))=true)/\True)/\(decide ((qBA8 x)<(4:Int))=false->∃(l:List (Int×Int)),Y9 IntKind.i64 qBA6 (WX.m x)=Y9 IntKind.i64 qBA4 l/\∀(y:Int),y=Option.getD (Yt l qBA7) qBA7->∃(l:List (Int×Int)),Y9 IntKind.i64 qBA6 (WX.m x)=Y9 IntKind.i64 qBA4 l/\∀(y_1:Int),y_1=Option.getD (Yt l qBA9) qBA7->∃(l:List (Int×Int)),Y9 IntKind.i64 qBA6 (WX.m x)=Y9 IntKind.i64 qBA4 l/\∀(y_2:Int),y_2=Option.getD (Yt l (-1:Int)) qBA7->((wr IntKind.i64 (wr IntKind.i64 (y+y_1)+y_2)==(4:Int))=true->∃(l:List (Int×Int)),Y9 IntKind.i64 qBA6 (WX.m x)=Y9 IntKind.i64 qBA4 l/\∀(y:Int),y=Option.getD (Yt l qBA9) qBA7->(decide (y<=qBA9)=true->∃(l:List (Int×Int)),Y9 IntKind.i64 qBA6 (WX.m x)=Y9 IntKind.i64 qBA4 l/\∀(y:Int),y=Option.getD (Yt l (-1:Int)) qBA7->(decide (y<=qBA9)=true->true=v)/\(decide (y<=qBA9)=false->false=v))/\(decide (y<=qBA9)=false->false=v))/\((wr IntKind.i64 (wr IntKind.i64 (y+y_1)+y_2)==(4:Int))=false->false=v))):=by kernel_rfl
theorem Z0k {u:List Int} {k:Nat} {y n:Int} (h:u[k]? =some y):cnt (u.take (k+1)) n=cnt (u.take k) n+(if y=n then 1 else 0):=by
 have hk:=(List.getElem?_eq_some_iff.1 h).1
 have:u.take (k+1)=u.take k++ [y]:=by rw [List.take_succ_eq_append_getElem hk];congr 2;exact (List.getElem?_eq_some_iff.1 h).2
 unfold cnt
 rw [this,List.filter_append,List.length_append]
 by_cases e:y=n<;>simp [e]
theorem Zp0 (u:List Int) (n:Int):cnt u n<=u.length:=List.length_filter_le _ _
theorem Z0l:FnsOk E Z5n:=Ym E_ok F0_ok _ _ _
theorem Zv6 (a b c d:Int):PureC E 78 [dimA a b c d] (.bool false (Zc9 [a,b,c,d])):=by
 refine Zb E_ok (Zh E_ok Z0l 400) ?_
 rw [Zv5];delta qBA4 qBA7 qBA5 qBA6 qBA8 qBA9
 simp only [Yk,Z0,Wu,Wv,Ww,beq_iff_eq,bne_iff_ne,beq_eq_false_iff_ne,bne_eq_false_iff_eq,decide_eq_true_eq,decide_eq_false_iff_not,Bool.or_eq_true,Bool.or_eq_false_iff,Bool.not_eq_true',Bool.not_eq_false',Bool.and_eq_true,Bool.and_true,Bool.true_and,Bool.and_eq_false_iff,beq_self_eq_true,Xc,Y4,ne_eq,and_true,true_and,Bool.true_eq_false,Bool.false_eq_true,false_or,or_false,true_implies,imp_self,Int.ofNat_eq_natCast,not_true_eq_false,not_false_eq_true,Decidable.not_not]
 have hc:∀k n,k<=4->cnt ([a,b,c,d].take k) n<=4:=fun k n hk=>Nat.le_trans (Zp0 _ _) (by simp;omega)
 refine ⟨fun x=>x.k<=4/\(∀n,(Yt x.m n).getD 0=(cnt ([a,b,c,d].take x.k) n:Int))/\x.r=4-x.k,⟨⟨0,4,[]⟩,⟨(by dsimp only;omega),fun n=>rfl,rfl⟩,rfl,rfl⟩,?_⟩
 rintro x ⟨hk,hm,hr⟩
 refine And.intro (fun hq=>⟨by omega,by omega,fun y hy=>⟨x.m,rfl,fun y1 h1=>⟨x.m,rfl,?_⟩⟩⟩) (fun hq=> ?_)
 · have hy: [a,b,c,d][x.k]? =some y:=hy
   have:=hc x.k y (by omega)
   rw [hm y] at h1
   rw [wr64 (n:=(x.k:Int)+1) (by omega) (by omega),wr64 (n:=y1+1) (by omega) (by omega)]
   refine ⟨⟨x.k+1,3-x.k,putS x.m y (y1+1)⟩,⟨by show x.k+1<=4;omega,fun n=> ?_,by show 3-x.k=4-(x.k+1);omega⟩,by show 3-x.k+1<=x.r;omega,rfl,rfl,Zgw E_ok _⟩
   show (Yt (putS x.m y (y1+1)) n).getD 0=(cnt ([a,b,c,d].take (x.k+1)) n:Int)
   rw [Ze6,Z0k hy]
   by_cases e:y=n
   · subst e;rw [if_pos rfl,if_pos rfl,h1];simp
   · rw [if_neg e,if_neg e,hm n];simp
 · have hk4:x.k=4:=by omega
   have hm:∀n,(Yt x.m n).getD 0=(cnt [a,b,c,d] n:Int):=fun n=>by rw [hm n,hk4];rfl
   have h0:=Zp0 [a,b,c,d] 0
   have h1:=Zp0 [a,b,c,d] 1
   have h2:=Zp0 [a,b,c,d] (-1)
   simp only [List.length_cons,List.length_nil] at h0 h1 h2
   refine ⟨x.m,rfl,fun y hy=>⟨x.m,rfl,fun y1 hy1=>⟨x.m,rfl,fun y2 hy2=> ?_⟩⟩⟩
   rw [hm] at hy hy1 hy2
   rw [wr64 (n:=y+y1) (by omega) (by omega),wr64 (n:=y+y1+y2) (by omega) (by omega)]
   unfold Zc9
   refine And.intro (fun h3=>⟨x.m,rfl,fun z hz=> ?_⟩) (fun h3=> ?_)
   · rw [hm] at hz
     refine And.intro (fun h4=>⟨x.m,rfl,fun z2 hz2=> ?_⟩) (fun h4=> ?_)
     · rw [hm] at hz2
       refine And.intro (fun h5=> ?_) (fun h5=> ?_)
       · simp;omega
       · symm;simp only [Bool.and_eq_false_iff,decide_eq_false_iff_not];omega
     · symm;simp only [Bool.and_eq_false_iff,decide_eq_false_iff_not];omega
   · symm;simp only [Bool.and_eq_false_iff,decide_eq_false_iff_not];omega
end
section
open Go
noncomputable def dDim:DcL E (List Int×Unit):=dA1 (dR .dims)
noncomputable def Z80:Sum thy:=sumP dDim (fun _=>True) fun x=> .bool false (Zc9 [x.1.getD 0 0,x.1.getD 1 0,x.1.getD 2 0,x.1.getD 3 0])
theorem Z0a:SumOk E 78 Z80:=Yg E_ok (Zc (f:=78) rfl) fun x _=>Zv6 _ _ _ _
noncomputable def Yaz (m:Nat):Sum thy:=sumP dExp (fun x=>x.1.sz<m) fun x=> .bool false (Yh x.1)
noncomputable def Ya0:Dc E (List Ex):=(Zw8 (E:=E) Th.exprs:Dc E (List (thy.dom Th.exprs)))
noncomputable def Ya1 (m:Nat):Sum thy:=sumP (dA2 Ya0 (dFun 80)) (fun x=>Ex.szL x.1<m) fun x=> .bool false (!W3 x.1)
def Aidx:Fr thy->Hp thy->Nat->Ann thy:=fun T h i=>{X:=DX,fr:=fun x=> [(0,T 0),(1,T 1),(7,T 7),(8,.int false .i64 x.k)],bl:=fun x=> [],src:=fun _=> [],md:= [],ih:=i,M:=i+30,meas:=fun x=>x.r}
noncomputable def Z5f (m:Nat):Fns thy:=addL (addS F0 50 (Yaz m)) 125 2 Aidx E
theorem Zvo (m:Nat) (l:List Ex) (v:Bool):Zj E (Z5f m) (vc E (Z5f m) 400) 79 [.psl Th.exprs l false,.fn (.func 80) [] []] hp0 0 (fun r=>ret E (patch hp0 0 r) r.v (.bool false v))=(
∃(R:DX->Prop),(∃(x:DX),R x/\true=true/\((l=l/\(false=true->false=true))/\(Fn.func (80:FuncId)=Fn.func (80:FuncId)/\True/\True)/\(↑(List.length l):Int)=(↑(List.length l):Int)/\(0:Int)=(↑(DX.k x):Int)/\True)/\True)/\∀(x:DX),R x->(decide ((↑(DX.k x):Int)<(↑(List.length l):Int))=true->(0:Int)<=(↑(DX.k x):Int)/\(↑(DX.k x):Int)+(1:Int)<=(↑(List.length l):Int)/\∀(x_1:Ex),l[Int.toNat (↑(DX.k x):Int)]? =some x_1->Ex.sz (Ex.mk (Ex.op x_1) (Ex.n x_1) (Ex.d0 x_1) (Ex.d1 x_1) (Ex.d2 x_1) (Ex.d3 x_1) (Ex.l x_1))+(1:Nat)<=m/\((!Yh (Ex.mk (Ex.op x_1) (Ex.n x_1) (Ex.d0 x_1) (Ex.d1 x_1) (Ex.d2 x_1) (Ex.d3 x_1) (Ex.l x_1)))=true->(decide ((↑(DX.k x):Int)>=(0:Int))=true->true=v)/\(decide ((↑(DX.k x):Int)>=(0:Int))=false->false=v))/\((!Yh (Ex.mk (Ex.op x_1) (Ex.n x_1) (Ex.d0 x_1) (Ex.d1 x_1) (Ex.d2 x_1) (Ex.d3 x_1) (Ex.l x_1)))=false->∃(x':DX),R x'/\x'.2+(1:Nat)<=x.2/\true=true/\((l=l/\(false=true->false=true))/\(Fn.func (80:FuncId)=Fn.func (80:FuncId)/\True/\True)/\(↑(List.length l):Int)=(↑(List.length l):Int)/\wr IntKind.i64 ((↑(DX.k x):Int)+(1:Int))=(↑(DX.k x'):Int)/\True)/\True))/\(decide ((↑(DX.k x):Int)<(↑(List.length l):Int))=false->false=v)):=by kernel_rfl
theorem Zvp (m:Nat) (hm:m<=1000000000000) (ih:∀x:Ex,x.sz<m->PureC E 50 [exA x] (.bool false (Yh x))) (l:List Ex) (hl:Ex.szL l<m):PureC E 79 [.psl Th.exprs l false,.fn (.func 80) [] []] (.bool false (!W3 l)):=by
 have hF:FnsOk E (Z5f m):=Ym E_ok (Zd F0_ok (Yg E_ok (Zc (f:=50) rfl) fun x h=>ih x.1 h)) _ _ _
 refine Zb E_ok (Zh E_ok hF 400) ?_
 rw [Zvo]
 simp only [Yk,Z0,Wu,Wv,Ww,beq_iff_eq,bne_iff_ne,beq_eq_false_iff_ne,bne_eq_false_iff_eq,decide_eq_true_eq,decide_eq_false_iff_not,Bool.or_eq_true,Bool.or_eq_false_iff,Bool.not_eq_true',Bool.not_eq_false',Bool.and_eq_true,Bool.and_true,Bool.true_and,Bool.and_eq_false_iff,beq_self_eq_true,Xc,Y4,ne_eq,and_true,true_and,Bool.true_eq_false,Bool.false_eq_true,false_or,or_false,true_implies,imp_self,Int.ofNat_eq_natCast,not_true_eq_false,not_false_eq_true,Decidable.not_not,Ex.eta]
 have hlen:=Ex.szL_len l
 refine ⟨fun x=>x.k<=l.length/\W3 (l.drop x.k)=W3 l/\x.r=l.length-x.k,⟨⟨0,l.length,[],[],0,0,0,0⟩,⟨(by dsimp only;omega),rfl,rfl⟩,rfl⟩,?_⟩
 rintro x ⟨hk,hv,hr⟩
 refine And.intro (fun hq=>⟨by omega,by omega,fun y hy=> ?_⟩) (fun hq=> ?_)
 · have hy:l[x.k]? =some y:=hy
   rw [Zti hy] at hv
   have hys:=Ex.szL_mem (List.mem_of_getElem? hy)
   refine ⟨by omega,fun h1=> ?_,fun h1=> ?_⟩
   · rw [h1] at hv
     rw [<-hv]
     exact And.intro (fun _=>rfl) (fun h=>by omega)
   · rw [h1,Bool.true_and] at hv
     exact ⟨⟨x.k+1,l.length-(x.k+1),[],[],0,0,0,0⟩,⟨(by dsimp only;omega),hv,rfl⟩,by show l.length-(x.k+1)+1<=x.r;omega,wr64 (by omega) (by omega)⟩
 · rw [Wt (by omega)] at hv
   rw [<-hv];rfl
noncomputable def Z5g (m:Nat):Fns thy:=addS (addS F0 79 (Ya1 m)) 78 Z80
abbrev qBC4:=(0:Int)
abbrev qBC2 (a0:Ex):=(!Zc9 [List.getD [Ex.d0 a0,Ex.d1 a0,Ex.d2 a0,Ex.d3 a0] (0:Nat) qBC4,List.getD [Ex.d0 a0,Ex.d1 a0,Ex.d2 a0,Ex.d3 a0] (1:Nat) qBC4,List.getD [Ex.d0 a0,Ex.d1 a0,Ex.d2 a0,Ex.d3 a0] (2:Nat) qBC4,List.getD [Ex.d0 a0,Ex.d1 a0,Ex.d2 a0,Ex.d3 a0] (3:Nat) qBC4])
abbrev qBC7 (a0:Ex):=(!(Ex.d0 a0==qBC4&&(Ex.d1 a0==qBC4&&(Ex.d2 a0==qBC4&&(Ex.d3 a0==qBC4&&true)))))
abbrev qBC1 (a0:Ex) (b0:Bool) (c0:Nat):=((qBC2 a0)=false->((Ex.op a0 !=(1:Int))=true->((qBC7 a0)=true->false=b0)/\((qBC7 a0)=false->Ex.szL (Ex.l a0)+(1:Nat)<=c0/\(!!W3 (Ex.l a0))=b0))/\((Ex.op a0 !=(1:Int))=false->Ex.szL (Ex.l a0)+(1:Nat)<=c0/\(!!W3 (Ex.l a0))=b0))
abbrev qBC3 (a0:Ex):=(↑(List.length (Ex.l a0)):Int)
abbrev qBC5 (a0:Ex) (b0:Bool->Prop):=((decide (Ex.op a0<(1:Int))=true->b0 true)/\(decide (Ex.op a0<(1:Int))=false->(decide (Ex.op a0>(11:Int))=true->b0 true)/\(decide (Ex.op a0>(11:Int))=false->b0 false)))
abbrev qBC6 (a0:Ex) (b0:Bool):=(decide (Ex.n a0<qBC4)=true->false=b0)
theorem Zvq (m:Nat) (x:Ex) (v:Bool):Zj E (Z5g m) (vc E (Z5g m) 400) 50 [exA x] hp0 0 (fun r=>ret E (patch hp0 0 r) r.v (.bool false v))=(
 ((Ex.op x==(1:Int))=true->(qBC6 x v)/\(decide (Ex.n x<qBC4)=false->(decide (Ex.n x>(1099511627776:Int))=true->false=v)/\(decide (Ex.n x>(1099511627776:Int))=false->(((qBC3 x) !=qBC4)=true->false=v)/\(((qBC3 x) !=qBC4)=false->True/\((qBC2 x)=true->false=v)/\(qBC1 x v m)))))/\((Ex.op x==(1:Int))=false->((Ex.op x==(2:Int))=true->(qBC6 x v)/\(decide (Ex.n x<qBC4)=false->(decide (Ex.n x>(15:Int))=true->false=v)/\(decide (Ex.n x>(15:Int))=false->(((qBC3 x) !=qBC4)=true->false=v)/\(((qBC3 x) !=qBC4)=false->True/\((qBC2 x)=true->false=v)/\(qBC1 x v m)))))/\((Ex.op x==(2:Int))=false->((Ex.op x==(11:Int))=true->∃(Q:Bool->Prop),(qBC5 x Q)/\(Q true->false=v)/\(Q false->(qBC6 x v)/\(decide (Ex.n x<qBC4)=false->(decide (Ex.n x>qBC4)=true->false=v)/\(decide (Ex.n x>qBC4)=false->(((qBC3 x) !=(4:Int))=true->false=v)/\(((qBC3 x) !=(4:Int))=false->True/\((qBC2 x)=true->false=v)/\(qBC1 x v m))))))/\((Ex.op x==(11:Int))=false->∃(Q:Bool->Prop),(qBC5 x Q)/\(Q true->false=v)/\(Q false->(qBC6 x v)/\(decide (Ex.n x<qBC4)=false->(decide (Ex.n x>qBC4)=true->false=v)/\(decide (Ex.n x>qBC4)=false->(((qBC3 x) !=(2:Int))=true->false=v)/\(((qBC3 x) !=(2:Int))=false->True/\((qBC2 x)=true->false=v)/\(qBC1 x v m))))))))):=by kernel_rfl
theorem Zbt (x:Ex):Yh x=true↔(1<=x.op/\x.op<=11/\0<=x.n/\(x.op=1->x.n<=1099511627776)/\(x.op=2->x.n<=15)/\(x.op≠1->x.op≠2->x.n<=0)/\(x.op=1\/x.op=2->x.l.length=0)/\(x.op=11->x.l.length=4)/\(x.op≠1->x.op≠2->x.op≠11->x.l.length=2)/\
 (x.op=1\/(x.d0=0/\x.d1=0/\x.d2=0/\x.d3=0)))/\Zc9 [x.d0,x.d1,x.d2,x.d3]=true/\W3 x.l=true:=by
 rw [Zq4]
 simp only [Zcm,Bool.and_eq_true,Bool.or_eq_true,decide_eq_true_eq,Ex.u,List.cons.injEq,and_true]
 unfold Z2g Zlm
 constructor
 · rintro ⟨⟨⟨⟨⟨⟨⟨h1,h2⟩,h3⟩,h4⟩,h5⟩,h6⟩,h7⟩,h8⟩
   refine ⟨⟨h1,h2,h3,fun h=> ?_,fun h=> ?_,fun h h'=> ?_,fun h=> ?_,fun h=> ?_,fun h h' h''=> ?_,h7⟩,h6,h8⟩
   · rw [if_pos h] at h4;exact h4
   · rw [if_neg (by omega),if_pos h] at h4;exact h4
   · rw [if_neg h,if_neg h'] at h4;exact h4
   · rw [if_pos h] at h5;exact h5
   · rw [if_neg (by omega),if_pos h] at h5;exact h5
   · rw [if_neg (by omega),if_neg h''] at h5;exact h5
 · rintro ⟨⟨h1,h2,h3,h4,h5,h6,h7,h8,h9,h10⟩,h11,h12⟩
   refine ⟨⟨⟨⟨⟨⟨⟨h1,h2⟩,h3⟩,?_⟩,?_⟩,h11⟩,h10⟩,h12⟩
   · split
     · exact h4 ‹_›
     · split
       · exact h5 ‹_›
       · exact h6 ‹_› ‹_›
   · split
     · exact h7 ‹_›
     · split
       · exact h8 ‹_›
       · exact h9 (by omega) (by omega) ‹_›
theorem Z0b {x:Ex} (h:((1<=x.op/\x.op<=11/\0<=x.n/\(x.op=1->x.n<=1099511627776)/\(x.op=2->x.n<=15)/\(x.op≠1->x.op≠2->x.n<=0)/\(x.op=1\/x.op=2->x.l.length=0)/\(x.op=11->x.l.length=4)/\(x.op≠1->x.op≠2->x.op≠11->x.l.length=2)/\
 (x.op=1\/(x.d0=0/\x.d1=0/\x.d2=0/\x.d3=0)))->Zc9 [x.d0,x.d1,x.d2,x.d3]=true->False)):false=Yh x:=by
 symm;rw [Bool.eq_false_iff];intro h'
 have:=(Zbt x).1 h'
 exact h this.1 this.2.1
theorem Zvr {x:Ex} {b:Bool} (hb:b=W3 x.l) (h:(1<=x.op/\x.op<=11/\0<=x.n/\(x.op=1->x.n<=1099511627776)/\(x.op=2->x.n<=15)/\(x.op≠1->x.op≠2->x.n<=0)/\(x.op=1\/x.op=2->x.l.length=0)/\(x.op=11->x.l.length=4)/\(x.op≠1->x.op≠2->x.op≠11->x.l.length=2)/\
 (x.op=1\/(x.d0=0/\x.d1=0/\x.d2=0/\x.d3=0)))) (hw:Zc9 [x.d0,x.d1,x.d2,x.d3]=true):b=Yh x:=by
 rw [Bool.eq_iff_iff,Zbt,hb]
 exact ⟨fun h'=>⟨h,hw,h'⟩,fun h'=>h'.2.2⟩
theorem Z0c:∀(m:Nat),m<=1000000000000->∀(x:Ex),x.sz<m->PureC E 50 [exA x] (.bool false (Yh x)):=by
 intro m
 induction m with
 |zero=>intro _ x h;omega
 |succ m ih=>
  intro hb x hm
  have hF:FnsOk E (Z5g m):=Zd (Zd F0_ok (Yg E_ok (Zc (f:=79) rfl) fun x h=>Zvp m (by omega) (ih (by omega)) x.1 h)) Z0a
  refine Zb E_ok (Zh E_ok hF 400) ?_
  rw [Zvq];delta qBC4 qBC2 qBC7 qBC1 qBC3 qBC5 qBC6
  have hsz:=x.sz_eq
  repeat' (first|exact Z6u _|apply Z9p|apply JR_some|apply JR_and|apply Z9q|(refine And.intro ?_ ?_)|(intro h))
  all_goals (simp only [Yk,Z0,Wu,Wv,Ww,beq_iff_eq,bne_iff_ne,beq_eq_false_iff_ne,bne_eq_false_iff_eq,decide_eq_true_eq,decide_eq_false_iff_not,Bool.or_eq_true,Bool.or_eq_false_iff,Bool.not_eq_true',Bool.not_eq_false',Bool.and_eq_true,Bool.and_true,Bool.true_and,Bool.and_eq_false_iff,beq_self_eq_true,Xc,Y4,ne_eq,and_true,true_and,Bool.true_eq_false,Bool.false_eq_true,false_or,or_false,true_implies,imp_self,Int.ofNat_eq_natCast,not_true_eq_false,not_false_eq_true,Decidable.not_not,List.getD_cons_zero,List.getD_cons_succ] at*)
  all_goals first|trivial|omega|(exact Z0b (fun h hw=>by first|omega|(simp_all;done)))|(exact Zvr (by simp) (by omega) (by simp_all))
def in1 (d:Int):Bool:=decide (-1<=d)&&decide (d<=1)
theorem Zid (x:Int) (r:List Int) (n:Int):cnt (x::r) n=(if x=n then 1 else 0)+cnt r n:=by
 unfold cnt
 by_cases h:x=n<;>simp [h,Nat.add_comm]
theorem Zvs:∀u:List Int,cnt u 0+cnt u 1+cnt u (-1)<=u.length/\(cnt u 0+cnt u 1+cnt u (-1)=u.length↔u.all in1=true)
 | []=>by simp [cnt]
 |x::r=>by
  obtain ⟨h1,h2⟩:=Zvs r
  rw [Zid,Zid,Zid,List.all_cons,List.length_cons,Bool.and_eq_true,<-h2]
  unfold in1
  rw [Bool.and_eq_true,decide_eq_true_eq,decide_eq_true_eq]
  by_cases e0:x=0
  · subst e0;simp;omega
  · by_cases e1:x=1
    · subst e1;simp;omega
    · by_cases e2:x= -1
      · subst e2;simp;omega
      · rw [if_neg e0,if_neg e1,if_neg e2]
        omega
theorem Zvt (a b c d:Int):Zc9 [a,b,c,d]=([a,b,c,d].all in1&&(decide (cnt [a,b,c,d] 1<=1)&&decide (cnt [a,b,c,d] (-1)<=1))):=by
 have h:=(Zvs [a,b,c,d]).2
 have: [a,b,c,d].length=4:=rfl
 rw [this] at h
 unfold Zc9
 rw [Bool.eq_iff_iff,Bool.and_eq_true,Bool.and_eq_true,Bool.and_eq_true,Bool.and_eq_true,decide_eq_true_eq,h,and_assoc]
end
end Go.Proofs.YtddgkebdlgglaaaGreatDoor
/-
  DERIVED: THE SHELF's CONTRACTS AT THIS DUMP, IN PLAIN WORDS (tools/lay-plain.mjs out of 'YtddgkebdlgglaaaGreatDoorTvLay0.lean', which tools/lay-shelf.mjs wrote): THE SAME DECLARATIONS UNDER THE SAME NAMES: 'import', 'namespace', 'open', 'def', 'theorem' AND NOTHING ELSE: no command of the shelf's: FOR A HAND-IN. Each laying: the table of numbers ('.._ren') and one theorem, a field a fact of the dump's own or the kernel's comparison; each contract: ONE APPLICATION.
-/
namespace Go.Proofs
open Go.Shelf
def Tryz.lays160_ren:Go.Shelf.Ren:=⟨fun|160=>77|232=>119|231=>118|227=>120|234=>122|233=>121|236=>124|235=>123|228=>146|271=>149|151=>148|197=>147|120=>159|152=>158|260=>157|137=>62|119=>160|224=>161|225=>162|217=>89|266=>131|n=>n,fun|9=>9|4=>4|3=>3|5=>5|117=>171|116=>170|0=>0|124=>174|21=>21|105=>206|46=>204|119=>103|139=>223|138=>222|n=>n,fun|3=>8|4=>9|n=>n⟩
theorem Tryz.lays160:Go.Proofs.Lays.n160 Tryz.prog Tryz.lays160_ren:={
  mixed:=by kernel_rfl
  f119:=Tryz.func160.trans (congrArg some (by kernel_rfl))
  f120:=Tryz.func159.trans (congrArg some (by kernel_rfl))
  f137:=Tryz.func62.trans (congrArg some (by kernel_rfl))
  f151:=Tryz.func148.trans (congrArg some (by kernel_rfl))
  f152:=Tryz.func158.trans (congrArg some (by kernel_rfl))
  f160:=Tryz.func77.trans (congrArg some (by kernel_rfl))
  f197:=Tryz.func147.trans (congrArg some (by kernel_rfl))
  f217:=Tryz.func89.trans (congrArg some (by kernel_rfl))
  f224:=Tryz.func161.trans (congrArg some (by kernel_rfl))
  f225:=Tryz.func162.trans (congrArg some (by kernel_rfl))
  f227:=Tryz.func120.trans (congrArg some (by kernel_rfl))
  f228:=Tryz.func146.trans (congrArg some (by kernel_rfl))
  f231:=Tryz.func118.trans (congrArg some (by kernel_rfl))
  f232:=Tryz.func119.trans (congrArg some (by kernel_rfl))
  f233:=Tryz.func121.trans (congrArg some (by kernel_rfl))
  f234:=Tryz.func122.trans (congrArg some (by kernel_rfl))
  f235:=Tryz.func123.trans (congrArg some (by kernel_rfl))
  f236:=Tryz.func124.trans (congrArg some (by kernel_rfl))
  f260:=Tryz.func157.trans (congrArg some (by kernel_rfl))
  f266:=Tryz.func131.trans (congrArg some (by kernel_rfl))
  f271:=Tryz.func149.trans (congrArg some (by kernel_rfl))
  t0:=Tryz.underlying0
  a0:=Tryz.isAgg0
  z0:=Tryz.sizeOf0
  v0:=Tryz.zeroValue0
  t3:=Tryz.underlying3
  a3:=Tryz.isAgg3
  z3:=Tryz.sizeOf3
  v3:=Tryz.zeroValue3
  t4:=Tryz.underlying4
  a4:=Tryz.isAgg4
  z4:=Tryz.sizeOf4
  v4:=Tryz.zeroValue4
  t5:=Tryz.underlying5
  a5:=Tryz.isAgg5
  z5:=Tryz.sizeOf5
  v5:=Tryz.zeroValue5
  t9:=Tryz.underlying9
  a9:=Tryz.isAgg9
  z9:=Tryz.sizeOf9
  v9:=Tryz.zeroValue9
  t21:=Tryz.underlying21
  a21:=Tryz.isAgg21
  z21:=Tryz.sizeOf21
  v21:=Tryz.zeroValue21
  t46:=Tryz.underlying204
  a46:=Tryz.isAgg204
  z46:=Tryz.sizeOf204
  v46:=Tryz.zeroValue204
  t105:=Tryz.underlying206
  a105:=Tryz.isAgg206
  z105:=Tryz.sizeOf206
  v105:=Tryz.zeroValue206
  t116:=Tryz.underlying170
  a116:=Tryz.isAgg170
  z116:=Tryz.sizeOf170
  t117:=Tryz.underlying171
  a117:=Tryz.isAgg171
  z117:=Tryz.sizeOf171
  v117:=Tryz.zeroValue171
  t119:=Tryz.underlying103
  a119:=Tryz.isAgg103
  z119:=Tryz.sizeOf103
  t124:=Tryz.underlying174
  a124:=Tryz.isAgg174
  z124:=Tryz.sizeOf174
  v124:=Tryz.zeroValue174
  t138:=Tryz.underlying222
  a138:=Tryz.isAgg222
  z138:=Tryz.sizeOf222
  v138:=Tryz.zeroValue222
  t139:=Tryz.underlying223
  a139:=Tryz.isAgg223
  z139:=Tryz.sizeOf223
  v139:=Tryz.zeroValue223
  g3:=by kernel_rfl
  g4:=by kernel_rfl}
def Tryz.lays156_ren:Go.Shelf.Ren:=⟨fun|156=>26|165=>59|166=>60|169=>61|240=>87|241=>88|276=>129|277=>130|n=>n,fun|31=>63|9=>9|3=>3|4=>4|0=>0|20=>20|72=>111|76=>114|70=>108|37=>109|75=>113|127=>148|164=>190|5=>5|80=>80|n=>n,fun|n=>n⟩
theorem Tryz.lays156:Go.Proofs.Lays.n156 Tryz.prog Tryz.lays156_ren:={
  mixed:=by kernel_rfl
  f156:=Tryz.func26.trans (congrArg some (by kernel_rfl))
  f165:=Tryz.func59.trans (congrArg some (by kernel_rfl))
  f166:=Tryz.func60.trans (congrArg some (by kernel_rfl))
  f169:=Tryz.func61.trans (congrArg some (by kernel_rfl))
  f240:=Tryz.func87.trans (congrArg some (by kernel_rfl))
  f241:=Tryz.func88.trans (congrArg some (by kernel_rfl))
  f276:=Tryz.func129.trans (congrArg some (by kernel_rfl))
  f277:=Tryz.func130.trans (congrArg some (by kernel_rfl))
  t0:=Tryz.underlying0
  a0:=Tryz.isAgg0
  z0:=Tryz.sizeOf0
  v0:=Tryz.zeroValue0
  t3:=Tryz.underlying3
  a3:=Tryz.isAgg3
  z3:=Tryz.sizeOf3
  v3:=Tryz.zeroValue3
  t4:=Tryz.underlying4
  a4:=Tryz.isAgg4
  z4:=Tryz.sizeOf4
  v4:=Tryz.zeroValue4
  t9:=Tryz.underlying9
  a9:=Tryz.isAgg9
  z9:=Tryz.sizeOf9
  v9:=Tryz.zeroValue9
  t20:=Tryz.underlying20
  a20:=Tryz.isAgg20
  z20:=Tryz.sizeOf20
  v20:=Tryz.zeroValue20
  t31:=Tryz.underlying63
  a31:=Tryz.isAgg63
  z31:=Tryz.sizeOf63
  v31:=Tryz.zeroValue63
  t37:=Tryz.underlying109
  a37:=Tryz.isAgg109
  z37:=Tryz.sizeOf109
  v37:=Tryz.zeroValue109
  t70:=Tryz.underlying108
  a70:=Tryz.isAgg108
  z70:=Tryz.sizeOf108
  v70:=Tryz.zeroValue108
  t72:=Tryz.underlying111
  a72:=Tryz.isAgg111
  z72:=Tryz.sizeOf111
  v72:=Tryz.zeroValue111
  t75:=Tryz.underlying113
  a75:=Tryz.isAgg113
  z75:=Tryz.sizeOf113
  v75:=Tryz.zeroValue113
  t76:=Tryz.underlying114
  a76:=Tryz.isAgg114
  z76:=Tryz.sizeOf114
  v76:=Tryz.zeroValue114
  t127:=Tryz.underlying148
  a127:=Tryz.isAgg148
  z127:=Tryz.sizeOf148
  v127:=Tryz.zeroValue148
  t164:=Tryz.underlying190
  a164:=Tryz.isAgg190
  z164:=Tryz.sizeOf190
  v164:=Tryz.zeroValue190}
def Tryz.lays129_ren:Go.Shelf.Ren:=⟨fun|129=>142|n=>n,fun|53=>40|3=>3|4=>4|46=>204|5=>5|9=>9|n=>n,fun|n=>n⟩
theorem Tryz.lays129:Go.Proofs.Lays.n129 Tryz.prog Tryz.lays129_ren:={
  mixed:=by kernel_rfl
  f129:=Tryz.func142.trans (congrArg some (by kernel_rfl))
  t3:=Tryz.underlying3
  a3:=Tryz.isAgg3
  z3:=Tryz.sizeOf3
  v3:=Tryz.zeroValue3
  t4:=Tryz.underlying4
  a4:=Tryz.isAgg4
  z4:=Tryz.sizeOf4
  v4:=Tryz.zeroValue4
  t5:=Tryz.underlying5
  a5:=Tryz.isAgg5
  z5:=Tryz.sizeOf5
  v5:=Tryz.zeroValue5
  t9:=Tryz.underlying9
  a9:=Tryz.isAgg9
  z9:=Tryz.sizeOf9
  v9:=Tryz.zeroValue9
  t46:=Tryz.underlying204
  a46:=Tryz.isAgg204
  z46:=Tryz.sizeOf204
  v46:=Tryz.zeroValue204
  t53:=Tryz.underlying40
  a53:=Tryz.isAgg40
  z53:=Tryz.sizeOf40
  v53:=Tryz.zeroValue40}
def Tryz.lays317_ren:Go.Shelf.Ren:=⟨fun|317=>141|n=>n,fun|3=>3|46=>204|n=>n,fun|n=>n⟩
theorem Tryz.lays317:Go.Proofs.Lays.n317 Tryz.prog Tryz.lays317_ren:={
  mixed:=by kernel_rfl
  f317:=Tryz.func141.trans (congrArg some (by kernel_rfl))
  t3:=Tryz.underlying3
  a3:=Tryz.isAgg3
  z3:=Tryz.sizeOf3
  v3:=Tryz.zeroValue3
  t46:=Tryz.underlying204
  a46:=Tryz.isAgg204
  z46:=Tryz.sizeOf204
  v46:=Tryz.zeroValue204}
def Tryz.lays283_ren:Go.Shelf.Ren:=⟨fun|283=>114|n=>n,fun|3=>3|9=>9|4=>4|n=>n,fun|n=>n⟩
theorem Tryz.lays283:Go.Proofs.Lays.n283 Tryz.prog Tryz.lays283_ren:={
  mixed:=by kernel_rfl
  f283:=Tryz.func114.trans (congrArg some (by kernel_rfl))
  t3:=Tryz.underlying3
  a3:=Tryz.isAgg3
  z3:=Tryz.sizeOf3
  v3:=Tryz.zeroValue3
  t4:=Tryz.underlying4
  a4:=Tryz.isAgg4
  z4:=Tryz.sizeOf4
  v4:=Tryz.zeroValue4
  t9:=Tryz.underlying9
  a9:=Tryz.isAgg9
  z9:=Tryz.sizeOf9
  v9:=Tryz.zeroValue9}
end Go.Proofs

namespace Go.Proofs.YtddgkebdlgglaaaGreatDoor
set_option linter.unusedVariables false
set_option linter.unusedSimpArgs false
set_option linter.unnecessarySimpa false
set_option maxRecDepth 100000
section
open Go
def wb (c:Nat):Bool:=(Nat.ble 97 c&&Nat.ble c 122)||(Nat.ble 48 c&&Nat.ble c 57)
def Zst:List Nat:= [97,98,99,100,101,102,103,104,105,106,107,108,109,110,111,112,113,114,115,116,117,118,119,120,121,122,48,49,50,51,52,53,54,55,56,57]
def Zob (s:List Nat):List Nat:=(Lib.trimS (mkS s).data.toList (mkS Zst).data.toList).map UInt8.toNat
theorem Zxs (s:List Nat) (hs:s.length<=9223372036854775807):PureC E 77 [.str false s,.str true Zst] (.str false (Zob s)):=by
 refine Vs fun g w vals hd=> ?_
 obtain ⟨u,v,rfl,hu,hv⟩:=Z0o hd
 cases hu;cases hv
 rename_i b hb c hc
 subst hb
 have hc':c=mkS Zst:=by rw [<-hc,Zcy]
 subst hc'
 have hs':b.size<=9223372036854775807:=by rw [<-Za5];exact hs
 refine (Any.strings_Trim_laid Tryz.lays160 (by kernel_rfl) b (mkS Zst) w hs' (by decide) (ascii_of_all (by decide))).mono ?_
 rintro e w' ⟨rfl,hw⟩
 refine ⟨_,rfl,?_,hw⟩
 unfold Zob
 rw [Zcy]
 exact Z0p
theorem dw_nil {α:Type} {p:α->Bool}:∀{l:List α},l.dropWhile p= []↔∀x∈l,p x=true
 | []=>by simp
 |x::l=>by
  rw [List.dropWhile_cons]
  cases hp:p x with
  |true=>simp [hp,dw_nil (l:=l)]
  |false=>simp [hp]
theorem Zxt {α:Type} {p:α->Bool}:∀{l:List α} {b:α} {r:List α},l.dropWhile p=b::r->p b=false
 | [],b,r,h=>by simp at h
 |x::l,b,r,h=>by
  rw [List.dropWhile_cons] at h
  cases hp:p x with
  |true=>rw [hp] at h;exact Zxt h
  |false=>rw [hp] at h;simp at h;rw [<-h.1];exact hp
theorem Zxu (l cs:List UInt8):Lib.trimS l cs= []↔∀b∈l,cs.contains b=true:=by
 unfold Lib.trimS Lib.trimLeftS Lib.trimRightS
 rw [dw_nil]
 constructor
 · intro h
   cases hd:l.reverse.dropWhile (cs.contains ·) with
   |nil=>
    rw [dw_nil] at hd
    exact fun b hb=>hd b (List.mem_reverse.2 hb)
   |cons b r=>
    exfalso
    have h1:=h b (by rw [hd];simp)
    have h2:=Zxt hd
    rw [h1] at h2
    cases h2
 · intro h b hb
   rw [dw_nil.2 (fun b hb=>h b (List.mem_reverse.1 hb))] at hb
   simp at hb
theorem Zk9:∀n,n<256->(mkS Zst).data.toList.contains (UInt8.ofNat n)=wb n:=by decide
theorem Zxv {s:List Nat} (hs:Byt s):Zob s= []↔s.all wb=true:=by
 unfold Zob
 rw [List.map_eq_nil_iff,Zxu,List.all_eq_true]
 have e:s=(mkS s).data.toList.map UInt8.toNat:=(show toL (mkS s)=s from hs).symm
 constructor
 · intro h c hc
   rw [e] at hc
   obtain ⟨b,hb,rfl⟩:=List.mem_map.1 hc
   rw [<-Zk9 _ b.toNat_lt]
   have:=h b hb
   rwa [show UInt8.ofNat b.toNat=b from UInt8.ofNat_toNat]
 · intro h b hb
   have:=h b.toNat (by rw [e];exact List.mem_map_of_mem hb)
   rw [<-Zk9 _ b.toNat_lt] at this
   rwa [show UInt8.ofNat b.toNat=b from UInt8.ofNat_toNat] at this
noncomputable def Z94:Sum thy:=sumP (dA2 dS (dKs Zst)) (fun x=>x.1.length<=9223372036854775807) fun x=> .str false (Zob x.1)
theorem Z1o:SumOk E 77 Z94:=Yg E_ok (Zc (f:=77) rfl) fun x h=>Zxs _ h
noncomputable def Z61:Fns thy:=addS F0 77 Z94
theorem Z1p:FnsOk E Z61:=Zd F0_ok Z1o
def lowF:List Nat->Bool
 | []=>false
 |c::_=>Nat.ble 97 c&&Nat.ble c 122
def Zfn (s:List Nat):Bool:=decide (s.length<=32)&&lowF s&&s.all wb
theorem Zxw (s:List Nat) (v:Bool):Zj E Z61 (vc E Z61 400) 48 [.str false s] hp0 0 (fun r=>ret E (patch hp0 0 r) r.v (.bool false v))=(
(decide ((↑(List.length s):Int)<=(32:Int))=true->((!s==toL (ByteArray.mk #[]))=true->(0:Int)<=(0:Int)/\(0:Int)+(1:Int)<=(↑(List.length s):Int)/\∀(x:Nat),s[Int.toNat (0:Int)]? =some x->(decide ((↑x:Int)>=(97:Int))=true->(0:Int)<=(0:Int)/\(0:Int)+(1:Int)<=(↑(List.length s):Int)/\∀(x:Nat),s[Int.toNat (0:Int)]? =some x->(decide ((↑x:Int)<=(122:Int))=true->List.length s<=(9223372036854775807:Nat)/\((Zob s==toL (ByteArray.mk #[]))=true->true=v)/\((Zob s==toL (ByteArray.mk #[]))=false->false=v))/\(decide ((↑x:Int)<=(122:Int))=false->false=v))/\(decide ((↑x:Int)>=(97:Int))=false->false=v))/\((!s==toL (ByteArray.mk #[]))=false->false=v))/\(decide ((↑(List.length s):Int)<=(32:Int))=false->false=v)):=by kernel_rfl
theorem Zxx (s:List Nat):PureC E 48 [.str false s] (.bool false (Zfn s)):=by
 refine Z0m (j:=0) rfl fun hs=>Zb E_ok (Zh E_ok Z1p 400) ?_
 rw [Zxw]
 simp only [Yk,Z0,Wu,Wv,Ww,beq_iff_eq,bne_iff_ne,beq_eq_false_iff_ne,bne_eq_false_iff_eq,decide_eq_true_eq,decide_eq_false_iff_not,Bool.or_eq_true,Bool.or_eq_false_iff,Bool.not_eq_true',Bool.not_eq_false',Bool.and_eq_true,Bool.and_true,Bool.true_and,Bool.and_eq_false_iff,beq_self_eq_true,Xc,Y4,ne_eq,and_true,true_and,Bool.true_eq_false,Bool.false_eq_true,false_or,or_false,true_implies,imp_self,Int.ofNat_eq_natCast,not_true_eq_false,not_false_eq_true,Decidable.not_not]
 have he:toL (ByteArray.mk #[])= []:=rfl
 have hz:(0:Int).toNat=0:=rfl
 simp only [he,hz,Zxv hs]
 unfold Zfn
 refine And.intro (fun h1=>And.intro (fun h2=>⟨by omega,?_,fun c hc=> ?_⟩) (fun h2=> ?_)) (fun h1=> ?_)
 · cases s with
   |nil=>exact absurd rfl h2
   |cons c r=>simp only [List.length_cons];omega
 · cases s with
   |nil=>simp at hc
   |cons c' r=>
    obtain rfl:c'=c:=by simpa using hc
    rw [decide_eq_true (show (c'::r).length<=32 by omega),show lowF (c'::r)=(Nat.ble 97 c'&&Nat.ble c' 122) from rfl]
    refine And.intro (fun h3=>⟨by omega,by simp only [List.length_cons];omega,fun c2 hc2=> ?_⟩) (fun h3=> ?_)
    · obtain rfl:c'=c2:=by simpa using hc2
      refine And.intro (fun h4=>⟨by omega,fun h5=> ?_,fun h5=> ?_⟩) (fun h4=> ?_)
      · rw [h5,Nat.ble_eq_true_of_le (by omega),Nat.ble_eq_true_of_le (by omega)];rfl
      · rw [Bool.eq_false_iff.2 h5];simp
      · have:Nat.ble c' 122=false:=by rw [<-Bool.not_eq_true,Nat.ble_eq];omega
        rw [this];simp
    · have:Nat.ble 97 c'=false:=by rw [<-Bool.not_eq_true,Nat.ble_eq];omega
      rw [this];simp
 · rw [h2];simp [lowF]
 · rw [decide_eq_false (show ¬s.length<=32 by omega)];simp
def resW:List (List Nat):= [[116,97,114,105,102,102],[102,111,114],[99,108,97,117,115,101],[119,104,101,110],[97,110,100],[105,110],[105,115],[112,97,121],[109,105,110],[109,97,120],[100,111,119,110],[117,112],[104,97,108,102],[105,102],[109,111,110,101,121],[109,105,110,117,116,101],[112,101,114],[107,103],[116,121,112,101],[111,119,110,101,114],[114,97,105,108,119,97,121],[115,104,105,112,112,101,114],[99,108,97,115,115],[119,101,105,103,104,116],[107,109],[109,105,110,117,116,101,115],[119,111,114,107,105,110,103],[99,111,100,101],[119,111,114,116,104],[99,111,115,116],[109,111,110,116,104],[98,101,103,105,110],[112,97,114,116,115],[112,97,114,116],[104,105,114,101],[100,101,109,117,114,114,97,103,101],[102,114,101,105,103,104,116],[114,101,112,97,105,114],[108,111,115,115],[99,108,101,97,110,105,110,103]]
theorem Z1q (s:List Nat) (K:SV thy->Prop):Zj E F0 (vc E F0 400) 49 [.str false s] hp0 0 (fun r=>K r.v)=X2 false (.str false s) (resW.map fun k=>(Value.string (mkS k),SV.bool true true)) K (K (.bool true false)):=by kernel_rfl
theorem Zqp (s:List Nat):PureC E 49 [.str false s] (.bool false (decide (s∈resW))):=by
 refine Ziw E_ok (Z1w 400) (K:=fun r=>r.v= .bool true (decide (s∈resW))) (fun r hr=>by rw [hr];rfl) ?_
 rw [Z1q s fun v=>v= .bool true (decide (s∈resW))]
 refine Zgv ?_ (fun h=>by rw [decide_eq_true h]) (fun h=>by rw [decide_eq_false h])
 unfold Byt;decide
end
section
open Go
def Zvv:Dc E Unit where
 dec v:=match v with| .tup []=>some ()|_=>none
 enc _:= .tup []
 ok v a h:=by
  split at h
  · exact ⟨rfl,rfl,fun _ _ _ h=>h⟩
  · cases h
def dTup {α:Type} (r:DcL E α):Dc E α where
 dec v:=match v with| .tup cs=>r.dec cs|_=>none
 enc a:= .tup (r.enc a)
 ok v a h:=by
  split at h
  · obtain ⟨k1,k2,k3⟩:=r.ok _ _ h
    refine ⟨by simpa [nid] using k1,rfl,fun σ g u hd=> ?_⟩
    obtain ⟨arr,c,rfl,hs,hc,hd⟩:=Zir hd
    refine .tup c (by omega) (fun j hj=>hc j (by omega)) fun j sv' hj=> ?_
    obtain ⟨sv,h1,h2⟩:=k3 σ g j sv' hj
    exact h2 _ (hd j sv h1)
  · cases h
def dBt:Dc E Bool where
 dec v:=match v with| .bool _ b=>some b|_=>none
 enc b:= .bool true b
 ok v a h:=by
  split at h
  · cases h
    exact ⟨rfl,rfl,fun σ g u hd=>by cases hd;exact .bool _ _⟩
  · cases h
abbrev PX:=List Tok×Int×Unit
noncomputable def Ya2:Dc E (List Tok):=(Zw8 (E:=E) Th.toks:Dc E (List (thy.dom Th.toks)))
noncomputable def dPX:DcL E PX:=dA2 Ya2 dN
def Z0e (e:Int×Int):Value:= .iface 74 (.agg #[.int .i64 e.1,.int .i64 e.2])
def Zpz:Value->Option (Int×Int)
 | .iface t (.agg a)=>(match Nat.beq t 74,a.toList with|true,[.int .i64 x,.int .i64 y]=>some (x,y)|_,_=>none)
 |_=>none
theorem Zkg (q:Value) (e:Int×Int) (h:Zpz q=some e):Z0e e=q:=by
 unfold Zpz at h
 split at h
 · rename_i t a
   split at h
   · rename_i x y ht ha
     cases h
     unfold Z0e
     obtain rfl:=Nat.eq_of_beq_eq_true ht
     have:a= #[Value.int .i64 x,Value.int .i64 y]:=by rw [<-Array.toArray_toList (xs:=a),ha]
     rw [this]
   · cases h
 · cases h
noncomputable def mI {α β:Type} (dA:DcL E α) (hA:∀a,nidL 0 (dA.enc a)=true) (d:Dc E β) (hv:∀y,nid 0 (d.enc y)=true):MutI E PX α β (Int×Int) where
 dS:=dPX
 dA:=dA
 v:=d.enc
 hv:=hv
 hS _:=rfl
 hA:=hA
 pv:=Z0e
abbrev PR (β:Type):=Except (Int×Int) (β×PX)
noncomputable def mK {α β:Type} (dA:DcL E α) (hA:∀a,nidL 0 (dA.enc a)=true) (d:Dc E β) (hv:∀y,nid 0 (d.enc y)=true) (l:List Tok) (e:Int) (out:PR β):Res thy->Prop:=
 mutK (mI dA hA d hv) (fun _=>none) 3 d.dec Zpz (l,e,()) out
theorem Vz {F:Fns thy} (hF:FnsOk E F) {n:Nat} {α β:Type} {dA:DcL E α} {hA:∀a,nidL 0 (dA.enc a)=true} {d:Dc E β} {hv:∀y,nid 0 (d.enc y)=true} {f:Nat} {l:List Tok} {e:Int} {a:α} {out:PR β}
 (hk:Zj E F (vc E F n) f (.ptr 0 0::dA.enc a) (one [.psl Th.toks l false,.int false .i64 e]) 1 (mK dA hA d hv l e out)):Wk (mI dA hA d hv) f (l,e,()) a out:=
 Zl4 E_ok (Zh E_ok hF n) (fun v y h=>(d.ok v y h).2.2) Zkg (x:=(l,e,())) hk
theorem n1 {α:Type} {d:Dc E α} (h:∀y,nid 0 (d.enc y)=true):∀a:α×Unit,nidL 0 ((dA1 d).enc a)=true:=fun a=>by
 show (nid 0 (d.enc a.1)&&true)=true
 rw [h];rfl
theorem n0:∀a:Unit,nidL 0 ((DcL.nil (E:=E)).enc a)=true:=fun _=>rfl
def dWK:DcL E WK where
 dec vs:=match vs with| [.str true s]=>wkOf s|_=>none
 enc k:= [.str true k.src]
 ok vs k h:=by
  split at h
  · rw [Zq7 h]
    exact ⟨rfl,rfl,fun σ g j sv' hj=>⟨sv',hj,fun _ h=>h⟩⟩
  · cases h
theorem Zie:∀k,nidL 0 (dWK.enc k)=true:=fun _=>rfl
theorem Zv {A B:Prop}:(∃Q:Bool->Prop,Q true/\(Q true->A)/\(Q false->B))↔A:=
 ⟨fun ⟨_,h1,h2,_⟩=>h2 h1,fun h=>⟨fun b=>b=true,rfl,fun _=>h,fun h=>by cases h⟩⟩
theorem Z5 {c:Bool} {A B:Prop}:(∃Q:Bool->Prop,((c=true->Q true)/\(c=false->Q false))/\(Q true->A)/\(Q false->B))↔((c=true->A)/\(c=false->B)):=by
 constructor
 · rintro ⟨Q,⟨h1,h2⟩,h3,h4⟩
   exact ⟨fun h=>h3 (h1 h),fun h=>h4 (h2 h)⟩
 · rintro ⟨h1,h2⟩
   exact ⟨fun b=>c=b,⟨fun h=>h,fun h=>h⟩,h1,h2⟩
theorem tz {t:Tok} {l:List Tok}:((((t::l).length:Nat):Int)==0)=false:=by
 rw [beq_eq_false_iff_ne,List.length_cons];omega
theorem tz0:(((([]:List Tok).length:Nat):Int)==0)=true:=rfl
theorem tp {t:Tok} {l:List Tok}:decide ((((t::l).length:Nat):Int)>0)=true:=by
 rw [decide_eq_true_eq,List.length_cons];omega
theorem tp0:decide (((([]:List Tok).length:Nat):Int)>0)=false:=rfl
theorem tl1 {t:Tok} {l:List Tok}:((0:Int)+1<=(((t::l).length:Nat):Int))=True:=eq_true (by rw [List.length_cons];omega)
theorem tl2 {t:Tok} {l:List Tok}:((1:Int)<=(((t::l).length:Nat):Int))=True:=eq_true (by rw [List.length_cons];omega)
theorem tg {t x:Tok} {l:List Tok}:((t::l)[Int.toNat 0]? =some x)=(t=x):=by
 rw [eq_iff_iff];simp
theorem td {t:Tok} {l:List Tok}:List.drop (Int.toNat 1) (t::l)=l:=rfl
theorem i01:((0:Int)<=1)=True:=by simp
def hdT (e:Int):List Tok->Int
 | []=>e
 |t::_=>t.at_
def isW (s:List Nat):List Tok->Bool
 | []=>false
 |t::_=> !(t.kind==2)&&t.text==s
def pAcc (s:List Nat) (l:List Tok) (e:Int):PR Bool:= .ok (isW s l,if isW s l then l.tail else l,e,())
def Ze3 (s:List Nat) (l:List Tok) (e:Int):PR Unit:=if isW s l then .ok ((),l.tail,e,()) else .error (hdT e l,160)
def pInt:List Tok->Int->PR Int
 | [],e=> .error (e,160)
 |t::r,e=>if t.kind=2 then .ok (t.n,r,e,()) else .error (t.at_,160)
def chz (ws:List (List Nat)):List Tok->Int
 | []=> -1
 |t::_=>if t.kind=1 then idxS t.text 0 ws else-1
def Zw (ws:List (List Nat)) (l:List Tok) (e:Int):PR (Int×Bool×Unit):=if 0<=chz ws l then .ok ((chz ws l,true,()),l.tail,e,()) else .ok ((0,false,()),l,e,())
def Yl (ws:List (List Nat)) (l:List Tok) (e:Int):PR Int:=if 0<=chz ws l then .ok (chz ws l,l.tail,e,()) else .error (hdT e l,160)
def Uk:List Tok->Int->PR (List Nat)
 | [],e=> .error (e,160)
 |t::r,e=>if t.kind=1 then (if t.text∈resW then .error (t.at_,161) else .ok (t.text,r,e,())) else .error (t.at_,160)
theorem V3 {i:Int}:(decide (i<0)=true)=¬0<=i:=by rw [decide_eq_true_eq];exact propext (by omega)
theorem V4 {i:Int}:(decide (i<0)=false)=(0<=i):=by rw [decide_eq_false_iff_not];exact propext (by omega)
theorem Zmo (l:List Tok) (e:Int) (s:List Nat) (out:PR Bool):Zj E F0 (vc E F0 400) 33 [.ptr 0 0,.str false s] (one [.psl Th.toks l false,.int false .i64 e]) 1 (mK (dA1 dS) (n1 fun _=>rfl) dBt (fun _=>rfl) l e out)=(
(((↑(List.length l):Int)==(0:Int))=true->out=Except.ok (false,l,e,()))/\(((↑(List.length l):Int)==(0:Int))=false->(0:Int)<=(0:Int)/\(0:Int)+(1:Int)<=(↑(List.length l):Int)/\∀(x:Tok),l[Int.toNat (0:Int)]? =some x->((Tok.kind x==(2:Int))=true->out=Except.ok (false,l,e,()))/\((Tok.kind x==(2:Int))=false->(0:Int)<=(0:Int)/\(0:Int)+(1:Int)<=(↑(List.length l):Int)/\∀(x:Tok),l[Int.toNat (0:Int)]? =some x->((!Tok.text x==s)=true->out=Except.ok (false,l,e,()))/\((!Tok.text x==s)=false->((0:Int)<=(1:Int)/\(1:Int)<=(↑(List.length l):Int))/\out=Except.ok (true,List.drop (Int.toNat (1:Int)) l,e,()))))):=by kernel_rfl
theorem Zkh (l:List Tok) (e:Int) (out:PR Int):Zj E F0 (vc E F0 400) 98 [.ptr 0 0] (one [.psl Th.toks l false,.int false .i64 e]) 1 (mK .nil n0 dN (fun _=>rfl) l e out)=(
(((↑(List.length l):Int)==(0:Int))=true->(decide ((↑(List.length l):Int)>(0:Int))=true->(0:Int)<=(0:Int)/\(0:Int)+(1:Int)<=(↑(List.length l):Int)/\∀(x:Tok),l[Int.toNat (0:Int)]? =some x->out=Except.error (Tok.at_ x,(160:Int)))/\(decide ((↑(List.length l):Int)>(0:Int))=false->out=Except.error (e,(160:Int))))/\(((↑(List.length l):Int)==(0:Int))=false->(0:Int)<=(0:Int)/\(0:Int)+(1:Int)<=(↑(List.length l):Int)/\∀(x:Tok),l[Int.toNat (0:Int)]? =some x->((Tok.kind x !=(2:Int))=true->(decide ((↑(List.length l):Int)>(0:Int))=true->(0:Int)<=(0:Int)/\(0:Int)+(1:Int)<=(↑(List.length l):Int)/\∀(x:Tok),l[Int.toNat (0:Int)]? =some x->out=Except.error (Tok.at_ x,(160:Int)))/\(decide ((↑(List.length l):Int)>(0:Int))=false->out=Except.error (e,(160:Int))))/\((Tok.kind x !=(2:Int))=false->(0:Int)<=(0:Int)/\(0:Int)+(1:Int)<=(↑(List.length l):Int)/\∀(x:Tok),l[Int.toNat (0:Int)]? =some x->((0:Int)<=(1:Int)/\(1:Int)<=(↑(List.length l):Int))/\out=Except.ok (Tok.n x,List.drop (Int.toNat (1:Int)) l,e,())))):=by kernel_rfl
noncomputable def Fsm:Fns thy:=addS (addS (addS F0 24 Zy2) 96 Sixs) 49 (Zal (dA1 dS) (fun _=>True) (fun x=>decide (x.1∈resW)) fun y=> .bool false y)
theorem Zvw:FnsOk E Fsm:=Zd (Zd (Zd F0_ok Zt0) Z7q) (Yj E_ok (Zc (f:=49) rfl) fun x _=>Zqp x.1)
noncomputable def dIB:Dc E (Int×Bool×Unit):=dTup (dA2 dN dB)
abbrev qBV2 (a0:List Tok):=(↑(List.length a0):Int)
abbrev qBV3:=(0:Int)
abbrev qBV1 (a0:List Tok) (b0:PR Unit):=(decide ((qBV2 a0)>qBV3)=true->qBV3<=qBV3/\qBV3+(1:Int)<=(qBV2 a0)/\∀(x:Tok),a0[Int.toNat qBV3]? =some x->b0=Except.error (Tok.at_ x,(160:Int)))
abbrev qBV4 (a0:List Tok) (b0:PR Unit) (c0:Int):=(decide ((qBV2 a0)>qBV3)=false->b0=Except.error (c0,(160:Int)))
theorem Zmp (l:List Tok) (e:Int) (s:List Nat) (out:PR Unit):Zj E F0 (vc E F0 400) 29 [.ptr 0 0,.str false s] (one [.psl Th.toks l false,.int false .i64 e]) 1 (mK (dA1 dS) (n1 fun _=>rfl) Zvv (fun _=>rfl) l e out)=(
 (((qBV2 l)==qBV3)=true->(qBV1 l out)/\(qBV4 l out e))/\(((qBV2 l)==qBV3)=false->qBV3<=qBV3/\qBV3+(1:Int)<=(qBV2 l)/\∀(x:Tok),l[Int.toNat qBV3]? =some x->((Tok.kind x==(2:Int))=true->(qBV1 l out)/\(qBV4 l out e))/\((Tok.kind x==(2:Int))=false->qBV3<=qBV3/\qBV3+(1:Int)<=(qBV2 l)/\∀(x:Tok),l[Int.toNat qBV3]? =some x->((!Tok.text x==s)=true->(qBV1 l out)/\(qBV4 l out e))/\((!Tok.text x==s)=false->(qBV3<=(1:Int)/\(1:Int)<=(qBV2 l))/\out=Except.ok ((),List.drop (Int.toNat (1:Int)) l,e,()))))):=by kernel_rfl
abbrev qBV6:=(0:Int)
abbrev qBV5 (a0:Bool->Prop) (b0:List Tok) (c0:PR (Int×Bool×Unit)) (d0:Int) (e0:Int):=(a0 false->(qBV6<=(1:Int)/\(1:Int)<=(↑(List.length b0):Int))/\c0=Except.ok ((d0,true,()),List.drop (Int.toNat (1:Int)) b0,e0,()))
abbrev qBV7:=(WK.words WK.un)
theorem Zrs (l:List Tok) (e:Int) (out:PR (Int×Bool×Unit)):Zj E Fsm (vc E Fsm 400) 65 [.ptr 0 0,.str true (WK.src .un)] (one [.psl Th.toks l false,.int false .i64 e]) 1 (mK dWK Zie dIB (fun _=>rfl) l e out)=(
 (((↑(List.length l):Int)==qBV6)=true->List.length qBV7<=(1000000000:Nat)/\∀(y:Int),y=idxS [] (0:Nat) qBV7->∃(Q:Bool->Prop),Q true/\(Q true->out=Except.ok ((qBV6,false,()),l,e,()))/\(qBV5 Q l out y e))/\(((↑(List.length l):Int)==qBV6)=false->qBV6<=qBV6/\qBV6+(1:Int)<=(↑(List.length l):Int)/\∀(x:Tok),l[Int.toNat qBV6]? =some x->((Tok.kind x !=(1:Int))=true->List.length qBV7<=(1000000000:Nat)/\∀(y:Int),y=idxS [] (0:Nat) qBV7->∃(Q:Bool->Prop),Q true/\(Q true->out=Except.ok ((qBV6,false,()),l,e,()))/\(qBV5 Q l out y e))/\((Tok.kind x !=(1:Int))=false->qBV6<=qBV6/\qBV6+(1:Int)<=(↑(List.length l):Int)/\∀(x:Tok),l[Int.toNat qBV6]? =some x->List.length qBV7<=(1000000000:Nat)/\∀(y:Int),y=idxS (Tok.text x) (0:Nat) qBV7->∃(Q:Bool->Prop),((decide (y<qBV6)=true->Q true)/\(decide (y<qBV6)=false->Q false))/\(Q true->out=Except.ok ((qBV6,false,()),l,e,()))/\(qBV5 Q l out y e)))):=by kernel_rfl
abbrev qBV9:=(0:Int)
abbrev qBV8 (a0:Bool->Prop) (b0:List Tok) (c0:PR (Int×Bool×Unit)) (d0:Int) (e0:Int):=(a0 false->(qBV9<=(1:Int)/\(1:Int)<=(↑(List.length b0):Int))/\c0=Except.ok ((d0,true,()),List.drop (Int.toNat (1:Int)) b0,e0,()))
abbrev qBVa:=(WK.words WK.ca)
theorem Zrt (l:List Tok) (e:Int) (out:PR (Int×Bool×Unit)):Zj E Fsm (vc E Fsm 400) 65 [.ptr 0 0,.str true (WK.src .ca)] (one [.psl Th.toks l false,.int false .i64 e]) 1 (mK dWK Zie dIB (fun _=>rfl) l e out)=(
 (((↑(List.length l):Int)==qBV9)=true->List.length qBVa<=(1000000000:Nat)/\∀(y:Int),y=idxS [] (0:Nat) qBVa->∃(Q:Bool->Prop),Q true/\(Q true->out=Except.ok ((qBV9,false,()),l,e,()))/\(qBV8 Q l out y e))/\(((↑(List.length l):Int)==qBV9)=false->qBV9<=qBV9/\qBV9+(1:Int)<=(↑(List.length l):Int)/\∀(x:Tok),l[Int.toNat qBV9]? =some x->((Tok.kind x !=(1:Int))=true->List.length qBVa<=(1000000000:Nat)/\∀(y:Int),y=idxS [] (0:Nat) qBVa->∃(Q:Bool->Prop),Q true/\(Q true->out=Except.ok ((qBV9,false,()),l,e,()))/\(qBV8 Q l out y e))/\((Tok.kind x !=(1:Int))=false->qBV9<=qBV9/\qBV9+(1:Int)<=(↑(List.length l):Int)/\∀(x:Tok),l[Int.toNat qBV9]? =some x->List.length qBVa<=(1000000000:Nat)/\∀(y:Int),y=idxS (Tok.text x) (0:Nat) qBVa->∃(Q:Bool->Prop),((decide (y<qBV9)=true->Q true)/\(decide (y<qBV9)=false->Q false))/\(Q true->out=Except.ok ((qBV9,false,()),l,e,()))/\(qBV8 Q l out y e)))):=by kernel_rfl
abbrev qBVe:=(0:Int)
abbrev qBVd (a0:List Tok):=(↑(List.length a0):Int)
abbrev qBVb (a0:Bool->Prop) (b0:List Tok) (c0:PR Int) (d0:Int):=(a0 true->(decide ((qBVd b0)>qBVe)=true->qBVe<=qBVe/\qBVe+(1:Int)<=(qBVd b0)/\∀(x:Tok),b0[Int.toNat qBVe]? =some x->c0=Except.error (Tok.at_ x,(160:Int)))/\(decide ((qBVd b0)>qBVe)=false->c0=Except.error (d0,(160:Int))))
abbrev qBVc (a0:Bool->Prop) (b0:List Tok) (c0:PR Int) (d0:Int) (e0:Int):=(a0 false->(qBVe<=(1:Int)/\(1:Int)<=(qBVd b0))/\c0=Except.ok (d0,List.drop (Int.toNat (1:Int)) b0,e0,()))
abbrev qBVf:=(WK.words WK.at_)
theorem Zmq (l:List Tok) (e:Int) (out:PR Int):Zj E Fsm (vc E Fsm 400) 31 [.ptr 0 0,.str true (WK.src .at_)] (one [.psl Th.toks l false,.int false .i64 e]) 1 (mK dWK Zie dN (fun _=>rfl) l e out)=(
 (((qBVd l)==qBVe)=true->List.length qBVf<=(1000000000:Nat)/\∀(y:Int),y=idxS [] (0:Nat) qBVf->∃(Q:Bool->Prop),Q true/\(qBVb Q l out e)/\(qBVc Q l out y e))/\(((qBVd l)==qBVe)=false->qBVe<=qBVe/\qBVe+(1:Int)<=(qBVd l)/\∀(x:Tok),l[Int.toNat qBVe]? =some x->((Tok.kind x !=(1:Int))=true->List.length qBVf<=(1000000000:Nat)/\∀(y:Int),y=idxS [] (0:Nat) qBVf->∃(Q:Bool->Prop),Q true/\(qBVb Q l out e)/\(qBVc Q l out y e))/\((Tok.kind x !=(1:Int))=false->qBVe<=qBVe/\qBVe+(1:Int)<=(qBVd l)/\∀(x:Tok),l[Int.toNat qBVe]? =some x->List.length qBVf<=(1000000000:Nat)/\∀(y:Int),y=idxS (Tok.text x) (0:Nat) qBVf->∃(Q:Bool->Prop),((decide (y<qBVe)=true->Q true)/\(decide (y<qBVe)=false->Q false))/\(qBVb Q l out e)/\(qBVc Q l out y e)))):=by kernel_rfl
abbrev qBVj:=(0:Int)
abbrev qBVi (a0:List Tok):=(↑(List.length a0):Int)
abbrev qBVg (a0:Bool->Prop) (b0:List Tok) (c0:PR Int) (d0:Int):=(a0 true->(decide ((qBVi b0)>qBVj)=true->qBVj<=qBVj/\qBVj+(1:Int)<=(qBVi b0)/\∀(x:Tok),b0[Int.toNat qBVj]? =some x->c0=Except.error (Tok.at_ x,(160:Int)))/\(decide ((qBVi b0)>qBVj)=false->c0=Except.error (d0,(160:Int))))
abbrev qBVh (a0:Bool->Prop) (b0:List Tok) (c0:PR Int) (d0:Int) (e0:Int):=(a0 false->(qBVj<=(1:Int)/\(1:Int)<=(qBVi b0))/\c0=Except.ok (d0,List.drop (Int.toNat (1:Int)) b0,e0,()))
abbrev qBVk:=(WK.words WK.ki)
theorem Zmr (l:List Tok) (e:Int) (out:PR Int):Zj E Fsm (vc E Fsm 400) 31 [.ptr 0 0,.str true (WK.src .ki)] (one [.psl Th.toks l false,.int false .i64 e]) 1 (mK dWK Zie dN (fun _=>rfl) l e out)=(
 (((qBVi l)==qBVj)=true->List.length qBVk<=(1000000000:Nat)/\∀(y:Int),y=idxS [] (0:Nat) qBVk->∃(Q:Bool->Prop),Q true/\(qBVg Q l out e)/\(qBVh Q l out y e))/\(((qBVi l)==qBVj)=false->qBVj<=qBVj/\qBVj+(1:Int)<=(qBVi l)/\∀(x:Tok),l[Int.toNat qBVj]? =some x->((Tok.kind x !=(1:Int))=true->List.length qBVk<=(1000000000:Nat)/\∀(y:Int),y=idxS [] (0:Nat) qBVk->∃(Q:Bool->Prop),Q true/\(qBVg Q l out e)/\(qBVh Q l out y e))/\((Tok.kind x !=(1:Int))=false->qBVj<=qBVj/\qBVj+(1:Int)<=(qBVi l)/\∀(x:Tok),l[Int.toNat qBVj]? =some x->List.length qBVk<=(1000000000:Nat)/\∀(y:Int),y=idxS (Tok.text x) (0:Nat) qBVk->∃(Q:Bool->Prop),((decide (y<qBVj)=true->Q true)/\(decide (y<qBVj)=false->Q false))/\(qBVg Q l out e)/\(qBVh Q l out y e)))):=by kernel_rfl
abbrev qBVo:=(0:Int)
abbrev qBVn (a0:List Tok):=(↑(List.length a0):Int)
abbrev qBVl (a0:Bool->Prop) (b0:List Tok) (c0:PR Int) (d0:Int):=(a0 true->(decide ((qBVn b0)>qBVo)=true->qBVo<=qBVo/\qBVo+(1:Int)<=(qBVn b0)/\∀(x:Tok),b0[Int.toNat qBVo]? =some x->c0=Except.error (Tok.at_ x,(160:Int)))/\(decide ((qBVn b0)>qBVo)=false->c0=Except.error (d0,(160:Int))))
abbrev qBVm (a0:Bool->Prop) (b0:List Tok) (c0:PR Int) (d0:Int) (e0:Int):=(a0 false->(qBVo<=(1:Int)/\(1:Int)<=(qBVn b0))/\c0=Except.ok (d0,List.drop (Int.toNat (1:Int)) b0,e0,()))
abbrev qBVp:=(WK.words WK.un)
theorem Zms (l:List Tok) (e:Int) (out:PR Int):Zj E Fsm (vc E Fsm 400) 31 [.ptr 0 0,.str true (WK.src .un)] (one [.psl Th.toks l false,.int false .i64 e]) 1 (mK dWK Zie dN (fun _=>rfl) l e out)=(
 (((qBVn l)==qBVo)=true->List.length qBVp<=(1000000000:Nat)/\∀(y:Int),y=idxS [] (0:Nat) qBVp->∃(Q:Bool->Prop),Q true/\(qBVl Q l out e)/\(qBVm Q l out y e))/\(((qBVn l)==qBVo)=false->qBVo<=qBVo/\qBVo+(1:Int)<=(qBVn l)/\∀(x:Tok),l[Int.toNat qBVo]? =some x->((Tok.kind x !=(1:Int))=true->List.length qBVp<=(1000000000:Nat)/\∀(y:Int),y=idxS [] (0:Nat) qBVp->∃(Q:Bool->Prop),Q true/\(qBVl Q l out e)/\(qBVm Q l out y e))/\((Tok.kind x !=(1:Int))=false->qBVo<=qBVo/\qBVo+(1:Int)<=(qBVn l)/\∀(x:Tok),l[Int.toNat qBVo]? =some x->List.length qBVp<=(1000000000:Nat)/\∀(y:Int),y=idxS (Tok.text x) (0:Nat) qBVp->∃(Q:Bool->Prop),((decide (y<qBVo)=true->Q true)/\(decide (y<qBVo)=false->Q false))/\(qBVl Q l out e)/\(qBVm Q l out y e)))):=by kernel_rfl
theorem Zvx (l:List Tok) (e:Int) (out:PR (List Nat)):Zj E Fsm (vc E Fsm 400) 30 [.ptr 0 0] (one [.psl Th.toks l false,.int false .i64 e]) 1 (mK .nil n0 dS (fun _=>rfl) l e out)=(
(((↑(List.length l):Int)==(0:Int))=true->(decide ((↑(List.length l):Int)>(0:Int))=true->(0:Int)<=(0:Int)/\(0:Int)+(1:Int)<=(↑(List.length l):Int)/\∀(x:Tok),l[Int.toNat (0:Int)]? =some x->out=Except.error (Tok.at_ x,(160:Int)))/\(decide ((↑(List.length l):Int)>(0:Int))=false->out=Except.error (e,(160:Int))))/\(((↑(List.length l):Int)==(0:Int))=false->(0:Int)<=(0:Int)/\(0:Int)+(1:Int)<=(↑(List.length l):Int)/\∀(x:Tok),l[Int.toNat (0:Int)]? =some x->((Tok.kind x !=(1:Int))=true->(decide ((↑(List.length l):Int)>(0:Int))=true->(0:Int)<=(0:Int)/\(0:Int)+(1:Int)<=(↑(List.length l):Int)/\∀(x:Tok),l[Int.toNat (0:Int)]? =some x->out=Except.error (Tok.at_ x,(160:Int)))/\(decide ((↑(List.length l):Int)>(0:Int))=false->out=Except.error (e,(160:Int))))/\((Tok.kind x !=(1:Int))=false->(0:Int)<=(0:Int)/\(0:Int)+(1:Int)<=(↑(List.length l):Int)/\∀(x:Tok),l[Int.toNat (0:Int)]? =some x->True/\∀(y:Bool),y=decide (Tok.text x∈resW)->(y=true->out=Except.error (Tok.at_ x,(161:Int)))/\(y=false->((0:Int)<=(1:Int)/\(1:Int)<=(↑(List.length l):Int))/\out=Except.ok (Tok.text x,List.drop (Int.toNat (1:Int)) l,e,()))))):=by kernel_rfl
theorem Zgt (l:List Tok) (e:Int) (s:List Nat):Wk (mI (dA1 dS) (n1 fun _=>rfl) dBt (fun _=>rfl)) 33 (l,e,()) (s,()) (pAcc s l e):=by
 refine Vz F0_ok (n:=400) (a:=(s,())) ?_
 rw [show (dA1 dS).enc (s,())= [.str false s] from rfl,Zmo]
 cases l with
 |nil=>simp only [Zv,Z5,tz,tz0,tp,tp0,tl1,tl2,tg,td,i01,true_and,and_true,forall_eq',forall_eq,Bool.true_eq_false,Bool.false_eq_true,reduceCtorEq,true_implies,false_implies,Int.le_refl,imp_self,bne_iff_ne,ne_eq,bne_eq_false_iff_eq,beq_iff_eq,beq_eq_false_iff_ne,V3,V4];rfl
 |cons t l=>
  simp only [Zv,Z5,tz,tz0,tp,tp0,tl1,tl2,tg,td,i01,true_and,and_true,forall_eq',forall_eq,Bool.true_eq_false,Bool.false_eq_true,reduceCtorEq,true_implies,false_implies,Int.le_refl,imp_self,bne_iff_ne,ne_eq,bne_eq_false_iff_eq,beq_iff_eq,beq_eq_false_iff_ne,V3,V4]
  unfold pAcc isW
  refine ⟨fun h=>by simp [h],fun h=>⟨fun h2=> ?_,fun h2=> ?_⟩⟩
  · simp at h2;simp [h2]
  · simp at h2;simp [h,h2]
theorem Zru (l:List Tok) (e:Int) (s:List Nat):Wk (mI (dA1 dS) (n1 fun _=>rfl) Zvv (fun _=>rfl)) 29 (l,e,()) (s,()) (Ze3 s l e):=by
 refine Vz F0_ok (n:=400) (a:=(s,())) ?_
 rw [show (dA1 dS).enc (s,())= [.str false s] from rfl,Zmp];delta qBV2 qBV3 qBV1 qBV4
 cases l with
 |nil=>simp only [Zv,Z5,tz,tz0,tp,tp0,tl1,tl2,tg,td,i01,true_and,and_true,forall_eq',forall_eq,Bool.true_eq_false,Bool.false_eq_true,reduceCtorEq,true_implies,false_implies,Int.le_refl,imp_self,bne_iff_ne,ne_eq,bne_eq_false_iff_eq,beq_iff_eq,beq_eq_false_iff_ne,V3,V4];rfl
 |cons t l=>
  simp only [Zv,Z5,tz,tz0,tp,tp0,tl1,tl2,tg,td,i01,true_and,and_true,forall_eq',forall_eq,Bool.true_eq_false,Bool.false_eq_true,reduceCtorEq,true_implies,false_implies,Int.le_refl,imp_self,bne_iff_ne,ne_eq,bne_eq_false_iff_eq,beq_iff_eq,beq_eq_false_iff_ne,V3,V4]
  unfold Ze3 isW hdT
  refine ⟨fun h=>by simp [h],fun h=>⟨fun h2=> ?_,fun h2=> ?_⟩⟩
  · simp at h2;simp [h2]
  · simp at h2;simp [h,h2]
theorem Zmt (l:List Tok) (e:Int):Wk (mI .nil n0 dN (fun _=>rfl)) 98 (l,e,()) () (pInt l e):=by
 refine Vz F0_ok (n:=400) (a:=()) ?_
 rw [show (DcL.nil (E:=E)).enc ()= [] from rfl,Zkh]
 cases l with
 |nil=>simp only [Zv,Z5,tz,tz0,tp,tp0,tl1,tl2,tg,td,i01,true_and,and_true,forall_eq',forall_eq,Bool.true_eq_false,Bool.false_eq_true,reduceCtorEq,true_implies,false_implies,Int.le_refl,imp_self,bne_iff_ne,ne_eq,bne_eq_false_iff_eq,beq_iff_eq,beq_eq_false_iff_ne,V3,V4];rfl
 |cons t l=>
  simp only [Zv,Z5,tz,tz0,tp,tp0,tl1,tl2,tg,td,i01,true_and,and_true,forall_eq',forall_eq,Bool.true_eq_false,Bool.false_eq_true,reduceCtorEq,true_implies,false_implies,Int.le_refl,imp_self,bne_iff_ne,ne_eq,bne_eq_false_iff_eq,beq_iff_eq,beq_eq_false_iff_ne,V3,V4]
  unfold pInt
  exact ⟨fun h=>by simp [h],fun h=>by simp [h]⟩
theorem Z0f (l:List Tok) (e:Int):Wk (mI .nil n0 dS (fun _=>rfl)) 30 (l,e,()) () (Uk l e):=by
 refine Vz Zvw (n:=400) (a:=()) ?_
 rw [show (DcL.nil (E:=E)).enc ()= [] from rfl,Zvx]
 cases l with
 |nil=>simp only [Zv,Z5,tz,tz0,tp,tp0,tl1,tl2,tg,td,i01,true_and,and_true,forall_eq',forall_eq,Bool.true_eq_false,Bool.false_eq_true,reduceCtorEq,true_implies,false_implies,Int.le_refl,imp_self,bne_iff_ne,ne_eq,bne_eq_false_iff_eq,beq_iff_eq,beq_eq_false_iff_ne,V3,V4];rfl
 |cons t l=>
  simp only [Zv,Z5,tz,tz0,tp,tp0,tl1,tl2,tg,td,i01,true_and,and_true,forall_eq',forall_eq,Bool.true_eq_false,Bool.false_eq_true,reduceCtorEq,true_implies,false_implies,Int.le_refl,imp_self,bne_iff_ne,ne_eq,bne_eq_false_iff_eq,beq_iff_eq,beq_eq_false_iff_ne,V3,V4]
  unfold Uk
  refine ⟨fun h=>by simp [h],fun h=>⟨fun h2=> ?_,fun h2=> ?_⟩⟩
  · simp at h2;simp [h,h2]
  · simp at h2;simp [h,h2]
theorem Zrv (k:WK) (hk:k= .un\/k= .ca) (l:List Tok) (e:Int):Wk (mI dWK Zie dIB (fun _=>rfl)) 65 (l,e,()) k (Zw k.words l e):=by
 refine Vz Zvw (n:=400) (a:=k) ?_
 rcases hk with rfl|rfl
 · rw [show dWK.enc .un= [.str true (WK.src .un)] from rfl,Zrs];delta qBV6 qBV5 qBV7
   cases l with
   |nil=>
    simp only [Zv,Z5,tz,tz0,tp,tp0,tl1,tl2,tg,td,i01,true_and,and_true,forall_eq',forall_eq,Bool.true_eq_false,Bool.false_eq_true,reduceCtorEq,true_implies,false_implies,Int.le_refl,imp_self,bne_iff_ne,ne_eq,bne_eq_false_iff_eq,beq_iff_eq,beq_eq_false_iff_ne]
    try simp only [V3,V4]
    exact ⟨by decide,rfl⟩
   |cons t l=>
    simp only [Zv,Z5,tz,tz0,tp,tp0,tl1,tl2,tg,td,i01,true_and,and_true,forall_eq',forall_eq,Bool.true_eq_false,Bool.false_eq_true,reduceCtorEq,true_implies,false_implies,Int.le_refl,imp_self,bne_iff_ne,ne_eq,bne_eq_false_iff_eq,beq_iff_eq,beq_eq_false_iff_ne]
    try simp only [V3,V4]
    unfold Zw chz
    refine ⟨fun h=>⟨by decide,by simp [h]⟩,fun h=>⟨by decide,fun h2=> ?_,fun h2=> ?_⟩⟩
    · simp [h,h2]
    · simp [h,h2]
 · rw [show dWK.enc .ca= [.str true (WK.src .ca)] from rfl,Zrt];delta qBV9 qBV8 qBVa
   cases l with
   |nil=>
    simp only [Zv,Z5,tz,tz0,tp,tp0,tl1,tl2,tg,td,i01,true_and,and_true,forall_eq',forall_eq,Bool.true_eq_false,Bool.false_eq_true,reduceCtorEq,true_implies,false_implies,Int.le_refl,imp_self,bne_iff_ne,ne_eq,bne_eq_false_iff_eq,beq_iff_eq,beq_eq_false_iff_ne]
    try simp only [V3,V4]
    exact ⟨by decide,rfl⟩
   |cons t l=>
    simp only [Zv,Z5,tz,tz0,tp,tp0,tl1,tl2,tg,td,i01,true_and,and_true,forall_eq',forall_eq,Bool.true_eq_false,Bool.false_eq_true,reduceCtorEq,true_implies,false_implies,Int.le_refl,imp_self,bne_iff_ne,ne_eq,bne_eq_false_iff_eq,beq_iff_eq,beq_eq_false_iff_ne]
    try simp only [V3,V4]
    unfold Zw chz
    refine ⟨fun h=>⟨by decide,by simp [h]⟩,fun h=>⟨by decide,fun h2=> ?_,fun h2=> ?_⟩⟩
    · simp [h,h2]
    · simp [h,h2]
theorem Z0g (k:WK) (hk:k= .at_\/k= .ki\/k= .un) (l:List Tok) (e:Int):Wk (mI dWK Zie dN (fun _=>rfl)) 31 (l,e,()) k (Yl k.words l e):=by
 refine Vz Zvw (n:=400) (a:=k) ?_
 rcases hk with rfl|rfl|rfl
 · rw [show dWK.enc .at_= [.str true (WK.src .at_)] from rfl,Zmq];delta qBVe qBVd qBVb qBVc qBVf
   cases l with
   |nil=>
    simp only [Zv,Z5,tz,tz0,tp,tp0,tl1,tl2,tg,td,i01,true_and,and_true,forall_eq',forall_eq,Bool.true_eq_false,Bool.false_eq_true,reduceCtorEq,true_implies,false_implies,Int.le_refl,imp_self,bne_iff_ne,ne_eq,bne_eq_false_iff_eq,beq_iff_eq,beq_eq_false_iff_ne]
    try simp only [V3,V4]
    exact ⟨by decide,rfl⟩
   |cons t l=>
    simp only [Zv,Z5,tz,tz0,tp,tp0,tl1,tl2,tg,td,i01,true_and,and_true,forall_eq',forall_eq,Bool.true_eq_false,Bool.false_eq_true,reduceCtorEq,true_implies,false_implies,Int.le_refl,imp_self,bne_iff_ne,ne_eq,bne_eq_false_iff_eq,beq_iff_eq,beq_eq_false_iff_ne]
    try simp only [V3,V4]
    unfold Yl chz hdT
    refine ⟨fun h=>⟨by decide,by simp [h]⟩,fun h=>⟨by decide,fun h2=> ?_,fun h2=> ?_⟩⟩
    · simp [h,h2]
    · simp [h,h2]
 · rw [show dWK.enc .ki= [.str true (WK.src .ki)] from rfl,Zmr];delta qBVj qBVi qBVg qBVh qBVk
   cases l with
   |nil=>
    simp only [Zv,Z5,tz,tz0,tp,tp0,tl1,tl2,tg,td,i01,true_and,and_true,forall_eq',forall_eq,Bool.true_eq_false,Bool.false_eq_true,reduceCtorEq,true_implies,false_implies,Int.le_refl,imp_self,bne_iff_ne,ne_eq,bne_eq_false_iff_eq,beq_iff_eq,beq_eq_false_iff_ne]
    try simp only [V3,V4]
    exact ⟨by decide,rfl⟩
   |cons t l=>
    simp only [Zv,Z5,tz,tz0,tp,tp0,tl1,tl2,tg,td,i01,true_and,and_true,forall_eq',forall_eq,Bool.true_eq_false,Bool.false_eq_true,reduceCtorEq,true_implies,false_implies,Int.le_refl,imp_self,bne_iff_ne,ne_eq,bne_eq_false_iff_eq,beq_iff_eq,beq_eq_false_iff_ne]
    try simp only [V3,V4]
    unfold Yl chz hdT
    refine ⟨fun h=>⟨by decide,by simp [h]⟩,fun h=>⟨by decide,fun h2=> ?_,fun h2=> ?_⟩⟩
    · simp [h,h2]
    · simp [h,h2]
 · rw [show dWK.enc .un= [.str true (WK.src .un)] from rfl,Zms];delta qBVo qBVn qBVl qBVm qBVp
   cases l with
   |nil=>
    simp only [Zv,Z5,tz,tz0,tp,tp0,tl1,tl2,tg,td,i01,true_and,and_true,forall_eq',forall_eq,Bool.true_eq_false,Bool.false_eq_true,reduceCtorEq,true_implies,false_implies,Int.le_refl,imp_self,bne_iff_ne,ne_eq,bne_eq_false_iff_eq,beq_iff_eq,beq_eq_false_iff_ne]
    try simp only [V3,V4]
    exact ⟨by decide,rfl⟩
   |cons t l=>
    simp only [Zv,Z5,tz,tz0,tp,tp0,tl1,tl2,tg,td,i01,true_and,and_true,forall_eq',forall_eq,Bool.true_eq_false,Bool.false_eq_true,reduceCtorEq,true_implies,false_implies,Int.le_refl,imp_self,bne_iff_ne,ne_eq,bne_eq_false_iff_eq,beq_iff_eq,beq_eq_false_iff_ne]
    try simp only [V3,V4]
    unfold Yl chz hdT
    refine ⟨fun h=>⟨by decide,by simp [h]⟩,fun h=>⟨by decide,fun h2=> ?_,fun h2=> ?_⟩⟩
    · simp [h,h2]
    · simp [h,h2]
end
section
open Go
noncomputable def Z4y:Sum thy:=fun args h _ k=>
 match args with
 | [.ptr b 0,.str _ s]=>
  (match h b with
  |some (.raw cs 0 _)=>(match dPX.dec cs with
   |some x=>(isW s x.1=true->k (Zgq b (.bool true true) (dPX.enc (x.1.tail,x.2))))/\(isW s x.1=false->k (Zgq b (.bool true false) (dPX.enc x)))
   |none=>False)
  |_=>False)
 |_=>False
noncomputable def Sexp:Sum thy:=fun args h _ k=>
 match args with
 | [.ptr b 0,.str _ s]=>
  (match h b with
  |some (.raw cs 0 _)=>(match dPX.dec cs with
   |some x=>(isW s x.1=true->k (Zgq b (.tup []) (dPX.enc (x.1.tail,x.2))))/\(isW s x.1=false->k (Zul b (Z0e (hdT x.2.1 x.1,160))))
   |none=>False)
  |_=>False)
 |_=>False
theorem SaccB_ok:SumOk E 33 Z4y:=by
 refine ⟨Zc rfl,fun args h i k hD hk=> ?_⟩
 unfold Z4y at hk
 split at hk
 case h_2=>exact hk.elim
 rename_i b f s
 split at hk
 case h_2=>exact hk.elim
 rename_i cs tg hb
 split at hk
 case h_2=>exact hk.elim
 rename_i x hx
 obtain ⟨l,e,_⟩:=x
 refine (Xa E_ok (Zc rfl) (M:=mI (dA1 dS) (n1 fun _=>rfl) dBt (fun _=>rfl)) (pre:=fun _ _=>True) (fn:=fun x a=>pAcc a.1 x.1 x.2.1) fun x a _=>Zgt x.1 x.2.1 a.1).ok [.ptr b 0,.str f s] h i k hD ?_
 simp only [sumM,hb]
 rw [show (mI (dA1 dS) (n1 fun _=>rfl) dBt (fun _=>rfl)).dS.dec cs=some (l,e,()) from hx,show (mI (dA1 dS) (n1 fun _=>rfl) dBt (fun _=>rfl)).dA.dec [.str f s]=some (s,()) from rfl]
 refine ⟨trivial,fun y x' he=> ?_,fun e he=>by cases he⟩
 unfold pAcc at he
 injection he with he
 injection he with e1 e2
 subst e1;subst e2
 cases hw:isW s l with
 |true=>exact hk.1 hw
 |false=>exact hk.2 hw
theorem Z4z:SumOk E 29 Sexp:=by
 refine ⟨Zc rfl,fun args h i k hD hk=> ?_⟩
 unfold Sexp at hk
 split at hk
 case h_2=>exact hk.elim
 rename_i b f s
 split at hk
 case h_2=>exact hk.elim
 rename_i cs tg hb
 split at hk
 case h_2=>exact hk.elim
 rename_i x hx
 obtain ⟨l,e,_⟩:=x
 refine (Xa E_ok (Zc rfl) (M:=mI (dA1 dS) (n1 fun _=>rfl) Zvv (fun _=>rfl)) (pre:=fun _ _=>True) (fn:=fun x a=>Ze3 a.1 x.1 x.2.1) fun x a _=>Zru x.1 x.2.1 a.1).ok [.ptr b 0,.str f s] h i k hD ?_
 simp only [sumM,hb]
 rw [show (mI (dA1 dS) (n1 fun _=>rfl) Zvv (fun _=>rfl)).dS.dec cs=some (l,e,()) from hx,show (mI (dA1 dS) (n1 fun _=>rfl) Zvv (fun _=>rfl)).dA.dec [.str f s]=some (s,()) from rfl]
 refine ⟨trivial,fun y x' he=> ?_,fun e he=> ?_⟩
 · unfold Ze3 at he
   split at he
   · rename_i hw
     injection he with he
     injection he with e1 e2
     subst e1;subst e2
     exact hk.1 hw
   · cases he
 · unfold Ze3 at he
   split at he
   · cases he
   · rename_i hw
     injection he with he
     subst he
     exact hk.2 (by simpa using hw)
def Yau:List Nat:= [119,104,101,110]
def sAnd:List Nat:= [97,110,100]
theorem Zu6 {f:FuncId} {cs rest cs':List (SV thy)} {v v':SV thy} (h:MutC E f cs rest v cs') (hv:∀σ g u,Den E σ g v u->Den E σ g v' u):MutC E f cs rest v' cs':=fun B σ g w vals hh a b c d e=>
 (h B σ g w vals hh a b c d e).mono fun en w' ⟨u,he,σ',g',s,i,dd⟩=>⟨u,he,σ',g',s,i,hv _ _ _ dd⟩
theorem Zmi (l:List Tok) (e:Int) (s:List Nat):Wk (mI (dA1 dS) (n1 fun _=>rfl) dB (fun _=>rfl)) 33 (l,e,()) (s,()) (pAcc s l e):=
 Zu6 (Zgt l e s) fun σ g u hd=>by cases hd;exact .bool _ _
noncomputable def Sacc:Sum thy:=fun args h i k=>
 match args with
 | [.ptr b 0,.str f s]=>
  (match eqL s Yau||eqL s sAnd with
  |true=>sumM (mI (dA1 dS) (n1 fun _=>rfl) dB (fun _=>rfl)) (fun _ _=>True) (fun x a=>pAcc a.1 x.1 x.2.1) [.ptr b 0,.str f s] h i k
  |false=>Z4y [.ptr b 0,.str f s] h i k)
 |_=>False
theorem Z40:SumOk E 33 Sacc:=by
 refine ⟨Zc rfl,fun args h i k hD hk=> ?_⟩
 unfold Sacc at hk
 split at hk
 · split at hk
   · exact (Xa E_ok (Zc rfl) fun x a _=>Zmi x.1 x.2.1 a.1).ok _ h i k hD hk
   · exact SaccB_ok.ok _ h i k hD hk
 · exact hk.elim
def Z41 (l:List Tok) (e:Int):PR Int:= .ok (hdT e l,l,e,())
theorem Zu7 (l:List Tok) (e:Int) (out:PR Int):Zj E F0 (vc E F0 400) 32 [.ptr 0 0] (one [.psl Th.toks l false,.int false .i64 e]) 1 (mK .nil n0 dN (fun _=>rfl) l e out)=(
(decide ((↑(List.length l):Int)>(0:Int))=true->(0:Int)<=(0:Int)/\(0:Int)+(1:Int)<=(↑(List.length l):Int)/\∀(x:Tok),l[Int.toNat (0:Int)]? =some x->out=Except.ok (Tok.at_ x,l,e,()))/\(decide ((↑(List.length l):Int)>(0:Int))=false->out=Except.ok (e,l,e,()))):=by kernel_rfl
theorem Zzu (l:List Tok) (e:Int):Wk (mI .nil n0 dN (fun _=>rfl)) 32 (l,e,()) () (Z41 l e):=by
 refine Vz F0_ok (n:=400) (a:=()) ?_
 rw [show (DcL.nil (E:=E)).enc ()= [] from rfl,Zu7]
 cases l with
 |nil=>exact ⟨fun h=>absurd h (by decide),fun _=>rfl⟩
 |cons t l=>exact ⟨fun _=>⟨Int.le_refl 0,by rw [List.length_cons];omega,fun x hx=>by rw [tg] at hx;subst hx;rfl⟩,fun h=>by rw [tp] at h;cases h⟩
noncomputable def Zzv:Sum thy:=fun args h _ k=>
 match args with
 | [.ptr b 0]=>
  (match h b with
  |some (.raw cs 0 _)=>(match dPX.dec cs with
   |some x=>∀y,y=hdT x.2.1 x.1->k (Zgq b (.int false .i64 y) (dPX.enc x))
   |none=>False)
  |_=>False)
 |_=>False
theorem Zpt:SumOk E 32 Zzv:=by
 refine ⟨Zc rfl,fun args h i k hD hk=> ?_⟩
 unfold Zzv at hk
 split at hk
 case h_2=>exact hk.elim
 rename_i b
 split at hk
 case h_2=>exact hk.elim
 rename_i cs tg hb
 split at hk
 case h_2=>exact hk.elim
 rename_i x hx
 obtain ⟨l,e,_⟩:=x
 refine (Xa E_ok (Zc rfl) (M:=mI .nil n0 dN (fun _=>rfl)) (pre:=fun _ _=>True) (fn:=fun x a=>Z41 x.1 x.2.1) fun x a _=>Zzu x.1 x.2.1).ok [.ptr b 0] h i k hD ?_
 simp only [sumM,hb]
 rw [show (mI .nil n0 dN (fun _=>rfl)).dS.dec cs=some (l,e,()) from hx,show (mI .nil n0 dN (fun _=>rfl)).dA.dec []=some () from rfl]
 refine ⟨trivial,fun y x' he=> ?_,fun e he=>by cases he⟩
 unfold Z41 at he
 injection he with he
 injection he with e1 e2
 subst e1;subst e2
 exact hk _ rfl
noncomputable def Scho:Sum thy:=sumM (mI dWK Zie dIB (fun _=>rfl)) (fun _ k=>k= .un\/k= .ca) fun x k=>Zw k.words x.1 x.2.1
theorem Z42:SumOk E 65 Scho:=Xa E_ok (Zc rfl) fun x k h=>Zrv k h x.1 x.2.1
noncomputable def Z8j:Sum thy:=sumM (mI dWK Zie dN (fun _=>rfl)) (fun _ k=>k= .at_\/k= .ki\/k= .un) fun x k=>Yl k.words x.1 x.2.1
theorem Zzw:SumOk E 31 Z8j:=Xa E_ok (Zc rfl) fun x k h=>Z0g k h x.1 x.2.1
noncomputable def Sint:Sum thy:=sumM (mI .nil n0 dN (fun _=>rfl)) (fun _ _=>True) fun x _=>pInt x.1 x.2.1
theorem Z43:SumOk E 98 Sint:=Xa E_ok (Zc rfl) fun x _ _=>Zmt x.1 x.2.1
noncomputable def Z8k:Sum thy:=sumM (mI .nil n0 dS (fun _=>rfl)) (fun _ _=>True) fun x _=>Uk x.1 x.2.1
theorem Zzx:SumOk E 30 Z8k:=Xa E_ok (Zc rfl) fun x _ _=>Z0f x.1 x.2.1
noncomputable def Fme:Fns thy:=addS (addS (addS (addS (addS (addS F0 33 Sacc) 29 Sexp) 65 Scho) 31 Z8j) 98 Sint) 30 Z8k
theorem Ze0:FnsOk E Fme:=Zd (Zd (Zd (Zd (Zd (Zd F0_ok Z40) Z4z) Z42) Zzw) Z43) Zzx
theorem Zu8 {s:List Nat}:∀{l:List (List Nat)} {k:Nat},idxS s k l<k+l.length
 | [],k=>by unfold idxS;simp;omega
 |x::l,k=>by
  unfold idxS
  split
  · simp;omega
  · have:=Zu8 (s:=s) (l:=l) (k:=k+1)
    simp at this⊢;omega
theorem Zpu {ws:List (List Nat)} {l:List Tok} (h:0<ws.length):chz ws l<ws.length:=by
 unfold chz
 split
 · omega
 · split
   · rename_i t r _
     have:=Zu8 (s:=t.text) (l:=ws) (k:=0)
     simpa using this
   · omega
theorem Y5 {ws:List (List Nat)} {l:List Tok} {e:Int} {y:Int×Bool×Unit} {x':PX} (h:Zw ws l e= .ok (y,x')):(0<=chz ws l/\y=(chz ws l,true,())/\x'=(l.tail,e,()))\/(¬0<=chz ws l/\y=(0,false,())/\x'=(l,e,())):=by
 unfold Zw at h
 split at h
 · injection h with h
   injection h with h1 h2
   exact .inl ⟨by assumption,h1.symm,h2.symm⟩
 · injection h with h
   injection h with h1 h2
   exact .inr ⟨by assumption,h1.symm,h2.symm⟩
theorem Zmj {ws:List (List Nat)} {l:List Tok} {e:Int} {er:Int×Int} (h:Zw ws l e= .error er):False:=by
 unfold Zw at h
 split at h<;>cases h
theorem Zab {ws:List (List Nat)} {l:List Tok} {e:Int} {y:Int} {x':PX} (h:Yl ws l e= .ok (y,x')):0<=chz ws l/\y=chz ws l/\x'=(l.tail,e,()):=by
 unfold Yl at h
 split at h
 · injection h with h
   injection h with h1 h2
   exact ⟨by assumption,h1.symm,h2.symm⟩
 · cases h
def incD (d:List Int) (i:Int):List Int:=d.set i.toNat (d.getD i.toNat 0+1)
def decD (d:List Int) (i:Int):List Int:=d.set i.toNat (d.getD i.toNat 0-1)
def sPer:List Nat:= [112,101,114]
def Vh (l:List Tok) (e:Int):PR (List Int):=
 match Zw WK.un.words l e with
 | .error er=> .error er
 | .ok (y,x)=>
  if isW sPer x.1 then
   match Yl WK.un.words x.1.tail x.2.1 with
   | .error er=> .error er
   | .ok (j,x1)=> .ok (decD (if y.2.1 then incD [0,0,0,0] y.1 else [0,0,0,0]) j,x1)
  else .ok (if y.2.1 then incD [0,0,0,0] y.1 else [0,0,0,0],x)
def sIs:List Nat:= [105,115]
def sIn:List Nat:= [105,110]
def Zzy:List Nat:= [46,46]
def W9 (n:Int) (l:List Tok) (e:Int):PR Tst:=
 match Yl WK.at_.words l e with
 | .error er=> .error er
 | .ok (a,x)=>
  if n=8 then .error (hdT e l,2)
  else if isW sIs x.1 then
   match pInt x.1.tail x.2.1 with
   | .error er=> .error er
   | .ok (m,x1)=> .ok (⟨a,m,m⟩,x1)
  else if isW sIn x.1 then
   match pInt x.1.tail x.2.1 with
   | .error er=> .error er
   | .ok (m,x1)=>
    if isW Zzy x1.1 then
     match pInt x1.1.tail x1.2.1 with
     | .error er=> .error er
     | .ok (k,x2)=> .ok (⟨a,m,k⟩,x2)
    else .error (hdT x1.2.1 x1.1,160)
  else .error (hdT x.2.1 x.1,160)
noncomputable def dDm:Dc E (List Int):=dR .dims
noncomputable def dTs:Dc E Tst:=dR .tests
abbrev qBW3:=(0:Int)
abbrev qBW1 (a0:Int×Bool×Unit) (b0:Int):=(List.set [qBW3,qBW3,qBW3,qBW3] (Int.toNat (Prod.fst a0)) (wr IntKind.i64 (b0+(1:Int))))
abbrev qBW2 (a0:Int) (b0:Int):=(List.set [qBW3,qBW3,qBW3,qBW3] (Int.toNat a0) (wr IntKind.i64 (b0-(1:Int))))
abbrev qBW4 (a0:Int×Bool×Unit) (b0:Int) (c0:Int) (d0:Int):=(List.set (qBW1 a0 b0) (Int.toNat c0) (wr IntKind.i64 (d0-(1:Int))))
abbrev qBW5:=(4:Nat)
abbrev qBW6 (a0:Int):=(qBW3<=a0/\a0+(1:Int)<=(↑qBW5:Int))
abbrev qBW7:=(WK.words WK.un)
abbrev qBW8:=(WK.un=WK.at_\/WK.un=WK.ki\/WK.un=WK.un)
theorem Zu9 (l:List Tok) (e:Int) (out:PR (List Int)):Zj E Fme (vc E Fme 400) 133 [.ptr 0 0] (one [.psl Th.toks l false,.int false .i64 e]) 1 (mK .nil n0 dDm (fun _=>rfl) l e out)=(
 (WK.un=WK.un\/WK.un=WK.ca)/\(∀(y:Int×Bool×Unit) (x':PX),Zw qBW7 l e=Except.ok (y,x')->(Prod.fst (Prod.snd y)=true->(qBW3<=Prod.fst y/\Prod.fst y+(1:Int)<=(↑qBW5:Int))/\Int.toNat (Prod.fst y)+(1:Nat)<=qBW5/\∀(x:Int),[qBW3,qBW3,qBW3,qBW3][Int.toNat (Prod.fst y)]? =some x->(qBW3<=Prod.fst y/\Prod.fst y+(1:Int)<=(↑qBW5:Int))/\(0:Nat)<=Int.toNat (Prod.fst y)/\Int.toNat (Prod.fst y)+(1:Nat)<=qBW5/\∀(x_1:Int),[qBW3,qBW3,qBW3,qBW3][Int.toNat (Prod.fst y)]? =some x_1->(isW [(112:Nat),(101:Nat),(114:Nat)] (Prod.fst x')=true->qBW8/\(∀(y_1:Int) (x'_1:PX),Yl qBW7 (List.tail (Prod.fst x')) (Prod.fst (Prod.snd x'))=Except.ok (y_1,x'_1)->(qBW6 y_1)/\Int.toNat y_1+(1:Nat)<=List.length (qBW1 y x)/\∀(x_2:Int),(qBW1 y x)[Int.toNat y_1]? =some x_2->(qBW6 y_1)/\(0:Nat)<=Int.toNat y_1/\Int.toNat y_1+(1:Nat)<=List.length (qBW1 y x)/\∀(x_3:Int),(qBW1 y x)[Int.toNat y_1]? =some x_3->List.length (qBW4 y x y_1 x_2)=qBW5/\List.length (qBW4 y x y_1 x_2)=qBW5/\qBW5=qBW5/\out=Except.ok ([List.getD (qBW4 y x y_1 x_2) (0:Nat) qBW3,List.getD (qBW4 y x y_1 x_2) (1:Nat) qBW3,List.getD (qBW4 y x y_1 x_2) (2:Nat) qBW3,List.getD (qBW4 y x y_1 x_2) (3:Nat) qBW3],Prod.fst x'_1,Prod.fst (Prod.snd x'_1),()))/\∀(e:Int×Int),Yl qBW7 (List.tail (Prod.fst x')) (Prod.fst (Prod.snd x'))=Except.error e->out=Except.error e)/\(isW [(112:Nat),(101:Nat),(114:Nat)] (Prod.fst x')=false->List.length (qBW1 y x)=qBW5/\List.length (qBW1 y x)=qBW5/\qBW5=qBW5/\out=Except.ok ([List.getD (qBW1 y x) (0:Nat) qBW3,List.getD (qBW1 y x) (1:Nat) qBW3,List.getD (qBW1 y x) (2:Nat) qBW3,List.getD (qBW1 y x) (3:Nat) qBW3],Prod.fst x',Prod.fst (Prod.snd x'),())))/\(Prod.fst (Prod.snd y)=false->(isW [(112:Nat),(101:Nat),(114:Nat)] (Prod.fst x')=true->qBW8/\(∀(y:Int) (x'_1:PX),Yl qBW7 (List.tail (Prod.fst x')) (Prod.fst (Prod.snd x'))=Except.ok (y,x'_1)->(qBW6 y)/\Int.toNat y+(1:Nat)<=qBW5/\∀(x:Int),[qBW3,qBW3,qBW3,qBW3][Int.toNat y]? =some x->(qBW6 y)/\(0:Nat)<=Int.toNat y/\Int.toNat y+(1:Nat)<=qBW5/\∀(x_1:Int),[qBW3,qBW3,qBW3,qBW3][Int.toNat y]? =some x_1->List.length (qBW2 y x)=qBW5/\List.length (qBW2 y x)=qBW5/\qBW5=qBW5/\out=Except.ok ([List.getD (qBW2 y x) (0:Nat) qBW3,List.getD (qBW2 y x) (1:Nat) qBW3,List.getD (qBW2 y x) (2:Nat) qBW3,List.getD (qBW2 y x) (3:Nat) qBW3],Prod.fst x'_1,Prod.fst (Prod.snd x'_1),()))/\∀(e:Int×Int),Yl qBW7 (List.tail (Prod.fst x')) (Prod.fst (Prod.snd x'))=Except.error e->out=Except.error e)/\(isW [(112:Nat),(101:Nat),(114:Nat)] (Prod.fst x')=false->qBW5=qBW5/\qBW5=qBW5/\qBW5=qBW5/\out=Except.ok ([qBW3,qBW3,qBW3,qBW3],Prod.fst x',Prod.fst (Prod.snd x'),()))))/\∀(e_1:Int×Int),Zw qBW7 l e=Except.error e_1->out=Except.error e_1):=by kernel_rfl
abbrev qBWa (a0:PX):=(Prod.fst (Prod.snd a0))
abbrev qBWb (a0:PX):=(List.tail (Prod.fst a0))
abbrev qBW9 (a0:Int) (b0:PX) (c0:PR Tst) (d0:Int):=((a0==(8:Int))=false->(isW [(105:Nat),(115:Nat)] (Prod.fst b0)=true->True/\(∀(y_1:Int) (x'_1:PX),pInt (qBWb b0) (qBWa b0)=Except.ok (y_1,x'_1)->c0=Except.ok (Tst.mk d0 y_1 y_1,Prod.fst x'_1,Prod.fst (Prod.snd x'_1),()))/\∀(e:Int×Int),pInt (qBWb b0) (qBWa b0)=Except.error e->c0=Except.error e)/\(isW [(105:Nat),(115:Nat)] (Prod.fst b0)=false->(isW [(105:Nat),(110:Nat)] (Prod.fst b0)=true->True/\(∀(y_1:Int) (x'_1:PX),pInt (qBWb b0) (qBWa b0)=Except.ok (y_1,x'_1)->(isW [(46:Nat),(46:Nat)] (Prod.fst x'_1)=true->True/\(∀(y_2:Int) (b0:PX),pInt (qBWb x'_1) (qBWa x'_1)=Except.ok (y_2,b0)->c0=Except.ok (Tst.mk d0 y_1 y_2,Prod.fst b0,Prod.fst (Prod.snd b0),()))/\∀(e:Int×Int),pInt (qBWb x'_1) (qBWa x'_1)=Except.error e->c0=Except.error e)/\(isW [(46:Nat),(46:Nat)] (Prod.fst x'_1)=false->c0=Except.error (hdT (qBWa x'_1) (Prod.fst x'_1),(160:Int))))/\∀(e:Int×Int),pInt (qBWb b0) (qBWa b0)=Except.error e->c0=Except.error e)/\(isW [(105:Nat),(110:Nat)] (Prod.fst b0)=false->c0=Except.error (hdT (qBWa b0) (Prod.fst b0),(160:Int)))))
abbrev qBWc:=(WK.at_=WK.at_\/WK.at_=WK.ki\/WK.at_=WK.un)
theorem Zva (l:List Tok) (e n:Int) (out:PR Tst):Zj E Fme (vc E Fme 400) 68 [.ptr 0 0,.int false .i64 n] (one [.psl Th.toks l false,.int false .i64 e]) 1 (mK (dA1 dN) (n1 fun _=>rfl) dTs (fun _=>rfl) l e out)=(
 (decide ((↑(List.length l):Int)>(0:Int))=true->(0:Int)<=(0:Int)/\(0:Int)+(1:Int)<=(↑(List.length l):Int)/\∀(x:Tok),l[Int.toNat (0:Int)]? =some x->qBWc/\(∀(y:Int) (x':PX),Yl (WK.words WK.at_) l e=Except.ok (y,x')->((n==(8:Int))=true->out=Except.error (Tok.at_ x,(2:Int)))/\(qBW9 n x' out y))/\∀(e_1:Int×Int),Yl (WK.words WK.at_) l e=Except.error e_1->out=Except.error e_1)/\(decide ((↑(List.length l):Int)>(0:Int))=false->qBWc/\(∀(y:Int) (x':PX),Yl (WK.words WK.at_) l e=Except.ok (y,x')->((n==(8:Int))=true->out=Except.error (e,(2:Int)))/\(qBW9 n x' out y))/\∀(e_1:Int×Int),Yl (WK.words WK.at_) l e=Except.error e_1->out=Except.error e_1)):=by kernel_rfl
theorem four {i : Int} (h0 : 0 ≤ i) (h4 : i < 4) : i = 0 ∨ i = 1 ∨ i = 2 ∨ i = 3 := by omega
theorem Zzz (l : List Tok) (e : Int) : Wk (mI .nil n0 dDm (fun _ => rfl)) 133 (l, e, ()) () (Vh l e) := by
 refine Vz Ze0 (n := 400) (a := ()) ?_
 rw [show (DcL.nil (E := E)).enc () = [] from rfl, Zu9]; delta qBW3 qBW1 qBW2 qBW4 qBW5 qBW6 qBW7 qBW8
 have w1 : wr .i64 1 = 1 := by decide
 have w2 : wr .i64 (-1) = -1 := by decide
 have w3 : wr .i64 0 = 0 := by decide
 refine ⟨.inl rfl, fun y x' h => ⟨fun hb => ?_, fun hb => ?_⟩, fun er h => (Zmj h).elim⟩
 · obtain ⟨i, b, _⟩ := y
   have hb : b = true := hb
   subst hb
   rcases Y5 h with ⟨q1, q2, rfl⟩ | ⟨_, q2, _⟩
   case inr => cases q2
   cases q2
   have q3 : chz WK.un.words l < 4 := Zpu (by decide)
   generalize hq : chz WK.un.words l = q at *
   rcases four q1 q3 with rfl | rfl | rfl | rfl
   all_goals
    simp [w1]
    refine ⟨fun h1 => ⟨fun j x1 z1 z2 h2 => ?_, fun e1 e2 h2 => ?_⟩, fun h1 => ?_⟩
    · obtain ⟨r1, r2, _⟩ := Zab h2
      have r3 : chz WK.un.words l.tail.tail < 4 := Zpu (by decide)
      rw [← r2] at r1 r3; clear r2
      rcases four r1 r3 with rfl | rfl | rfl | rfl
      all_goals simp [Vh, sPer, incD, decD, w1, w2, w3, *]
    · simp [Vh, sPer, incD, decD, *]
    · simp [Vh, sPer, incD, decD, *]
 · obtain ⟨i, b, _⟩ := y
   have hb : b = false := hb
   subst hb
   rcases Y5 h with ⟨_, q2, _⟩ | ⟨q1, q2, rfl⟩
   case inl => cases q2
   cases q2
   refine ⟨fun h1 => ⟨.inr (.inr rfl), fun j x1 h2 => ?_, fun er h2 => ?_⟩, fun h1 => ?_⟩
   · obtain ⟨r1, r2, _⟩ := Zab h2
     have r3 : chz WK.un.words l.tail < 4 := Zpu (by decide)
     rw [← r2] at r1 r3; clear r2
     rcases four r1 r3 with rfl | rfl | rfl | rfl
     all_goals simp [Vh, sPer, incD, decD, w1, w2, w3, *]
   · simp [Vh, sPer, incD, decD, *]
   · simp [Vh, sPer, incD, decD, *]
theorem Zz0 (l : List Tok) (e n : Int) : Wk (mI (dA1 dN) (n1 fun _ => rfl) dTs (fun _ => rfl)) 68 (l, e, ()) (n, ()) (W9 n l e) := by
 refine Vz Ze0 (n := 400) (a := (n, ())) ?_
 rw [show (dA1 dN).enc (n, ()) = [.int false .i64 n] from rfl, Zva]; delta qBWa qBWb qBW9 qBWc
 cases l with
 | nil =>
  simp only [Zv, Z5, tz, tz0, tp, tp0, tl1, tl2, tg, td, i01, true_and, and_true, forall_eq', forall_eq, Bool.true_eq_false, Bool.false_eq_true, reduceCtorEq, true_implies, false_implies, Int.le_refl, imp_self, bne_iff_ne, ne_eq, bne_eq_false_iff_eq, beq_iff_eq, beq_eq_false_iff_ne]
  repeat' (first | apply And.intro | intro _)
  all_goals first | exact .inl rfl | exact trivial | simp [W9, hdT, sIs, sIn, Zzy, *]
 | cons t l =>
  simp only [Zv, Z5, tz, tz0, tp, tp0, tl1, tl2, tg, td, i01, true_and, and_true, forall_eq', forall_eq, Bool.true_eq_false, Bool.false_eq_true, reduceCtorEq, true_implies, false_implies, Int.le_refl, imp_self, bne_iff_ne, ne_eq, bne_eq_false_iff_eq, beq_iff_eq, beq_eq_false_iff_ne]
  repeat' (first | apply And.intro | intro _)
  all_goals first | exact .inl rfl | exact trivial | simp [W9, hdT, sIs, sIn, Zzy, *]
end
section
open Go
noncomputable def dEx:Dc E Ex:=(dR .exprs:Dc E (thy.dom Th.exprs))
abbrev PE:=List Tok->Int->PR Ex
def Zit:List Nat:= [40]
def Ut:List Nat:= [41]
def sIf:List Nat:= [105,102]
def Uu:List Nat:= [44]
def Zxb:List Nat:= [60]
def pOpL (pe:PE):List (List Nat)->List Ex->List Tok->Int->PR (List Ex)
 | [],acc,l,e=> .ok (acc,l,e,())
 |s::r,acc,l,e=>
  match pe l e with
  | .error er=> .error er
  | .ok (x,y)=>if isW s y.1 then pOpL pe r (acc++ [x]) y.1.tail y.2.1 else .error (hdT y.2.1 y.1,160)
def pOps (pe:PE) (op:Int) (ss:List (List Nat)) (l:List Tok) (e:Int):PR Ex:=
 if isW Zit l then
  match pOpL pe ss [] l.tail e with
  | .error er=> .error er
  | .ok (xs,y)=> .ok (.mk op 0 0 0 0 0 xs,y)
 else .error (hdT e l,160)
def Za7 (pe:PE) (l:List Tok) (e:Int):PR Ex:=
 if isW Zit l then
  match pe l.tail e with
  | .error er=> .error er
  | .ok (x,y)=>if isW Ut y.1 then .ok (x,y.1.tail,y.2.1,()) else .error (hdT y.2.1 y.1,160)
 else if isW sIf l then pOps pe 11 [Zxb,Uu,Uu,Ut] l.tail e
 else match Zw WK.ca.words l e with
  | .error er=> .error er
  | .ok (k,y)=>
   if k.2.1 then pOps pe (6+k.1) [Uu,Ut] y.1 y.2.1
   else match Yl WK.at_.words y.1 y.2.1 with
    | .error er=> .error er
    | .ok (a,z)=> .ok (.mk 2 a 0 0 0 0 [],z)
def pFac (pe:PE) (l:List Tok) (e:Int):PR Ex:=
 match l with
 | []=>Za7 pe [] e
 |t::r=>
  if t.kind=2 then
   match Vh r e with
   | .error er=> .error er
   | .ok (d,y)=> .ok (.mk 1 t.n (d.getD 0 0) (d.getD 1 0) (d.getD 2 0) (d.getD 3 0) [],y)
  else Za7 pe (t::r) e
def Shr (pe:PE):Prop:=∀l e y x',pe l e= .ok (y,x')->x'.1.length<l.length
theorem Zm {s:List Nat} {l:List Tok} (h:isW s l=true):l.tail.length+1=l.length:=by
 cases l with
 |nil=>cases h
 |cons t l=>rfl
theorem Z9s {s:List Nat} {l:List Tok} {P:Prop} (h:isW s l=true->l.tail.length+1=l.length->P):isW s l=true->P:=fun q=>h q (Zm q)
theorem Z3l {pe:PE} (H:Shr pe) {l:List Tok} {e:Int} {P:Ex->PX->Prop} (h:∀y x',pe l e= .ok (y,x')->x'.1.length<l.length->P y x'):∀y x',pe l e= .ok (y,x')->P y x':=fun y x' q=>h y x' q (H _ _ _ _ q)
theorem Za8 {ws:List (List Nat)} {l:List Tok} (h:0<=chz ws l):l.tail.length+1=l.length:=by
 cases l with
 |nil=>cases h
 |cons t l=>rfl
theorem Z3m {l:List Tok} {e:Int} {A B:Int×Bool×Unit->PX->Prop} (hA:∀y x',Zw WK.ca.words l e= .ok (y,x')->y.2.1=true->x'.1.length<l.length->wr .i64 (6+y.1)=6+y.1->A y x') (hB:∀y x',Zw WK.ca.words l e= .ok (y,x')->y.2.1=false->B y x'):
 ∀y x',Zw WK.ca.words l e= .ok (y,x')->(y.2.1=true->A y x')/\(y.2.1=false->B y x'):=by
 intro y x' q
 refine ⟨fun hy=>hA y x' q hy ?_ ?_,fun hy=>hB y x' q hy⟩
 · rcases Y5 q with ⟨h1,rfl,rfl⟩|⟨_,rfl,_⟩
   · have:=Za8 h1
     show l.tail.length<l.length
     omega
   · cases hy
 · rcases Y5 q with ⟨h1,rfl,rfl⟩|⟨_,rfl,_⟩
   · have:=Zpu (ws:=WK.ca.words) (l:=l) (by decide)
     have h5:(WK.ca.words).length=5:=rfl
     rw [h5] at this
     exact wr64 (by show _<=6+chz _ _;omega) (by show 6+chz _ _<=_;omega)
   · rfl
theorem Z09 {pe:PE} {l:List Tok} {e:Int} (h:((l.length:Int)==0)=true):pFac pe l e=Za7 pe l e:=by
 cases l with
 |nil=>rfl
 |cons t l=>rw [tz] at h;cases h
theorem Z1a {pe:PE} {l:List Tok} {e:Int} {x:Tok} (hx:l[Int.toNat 0]? =some x) (h:(x.kind !=2)=true):pFac pe l e=Za7 pe l e:=by
 cases l with
 |nil=>cases hx
 |cons t l=>
  rw [tg] at hx
  subst hx
  simp at h
  simp [pFac,h]
theorem Z1b {l:List Tok} {e:Int} {x:Tok} (hx:l[Int.toNat 0]? =some x) (h:(x.kind !=2)=false):∃r,l=x::r/\x.kind=2/\pInt l e= .ok (x.n,r,e,()):=by
 cases l with
 |nil=>cases hx
 |cons t l=>
  rw [tg] at hx
  subst hx
  simp at h
  exact ⟨l,rfl,h,by simp [pInt,h]⟩
theorem Ziu {l:List Tok} (h:((l.length:Int)==0)=false):(0:Int)<=0/\(0:Int)+1<=l.length:=by
 have:(l.length:Int)≠0:=by simpa using h
 omega
noncomputable def Z9t:Sum thy:=sumM (mI .nil n0 dDm (fun _=>rfl)) (fun _ _=>True) fun x _=>Vh x.1 x.2.1
theorem Z1c:SumOk E 133 Z9t:=Xa E_ok (Zc rfl) fun x _ _=>Zzz x.1 x.2.1
noncomputable def Yba (n:Nat) (pe:PE):Sum thy:=sumM (mI .nil n0 dEx (fun _=>rfl)) (fun x _=>x.1.length<n) fun x _=>pe x.1 x.2.1
noncomputable def Ffa (n:Nat) (pe:PE):Fns thy:=addS (addS Fme 133 Z9t) 69 (Yba n pe)
abbrev qBX7 (a0:PX):=(Prod.fst (Prod.snd a0))
abbrev qBX9:=(0:Int)
abbrev qBX5:=(1:Nat)
abbrev qBXc:=(qBX5<=qBX5/\(0:Nat)<=qBX5/\(qBX5+qBX5)*(72:Nat)<=(140737488355328:Nat))
abbrev qBXd (a0:PX):=(Prod.fst a0)
abbrev qBX6 (a0:PX):=(List.tail (qBXd a0))
abbrev qBX2 (a0:Ex) (b0:Ex):=(List.take qBX5 [Ex.mk (Ex.op a0) (Ex.n a0) (Ex.d0 a0) (Ex.d1 a0) (Ex.d2 a0) (Ex.d3 a0) (Ex.l a0)]++ [Ex.mk (Ex.op b0) (Ex.n b0) (Ex.d0 b0) (Ex.d1 b0) (Ex.d2 b0) (Ex.d3 b0) (Ex.l b0)])
abbrev qBX8 (a0:Ex) (b0:Ex) (c0:Ex):=(List.take (qBX5+qBX5) (qBX2 a0 b0)++ [Ex.mk (Ex.op c0) (Ex.n c0) (Ex.d0 c0) (Ex.d1 c0) (Ex.d2 c0) (Ex.d3 c0) (Ex.l c0)])
abbrev qBX4 (a0:PX):=(hdT (qBX7 a0) (qBXd a0),(160:Int))
abbrev qBXb (a0:PX) (b0:PR Ex):=(isW [(41:Nat)] (qBXd a0)=false->b0=Except.error (qBX4 a0))
abbrev qBXf:=(qBX5+qBX5+qBX5+qBX5)
abbrev qBXe (a0:Ex) (b0:Ex) (c0:Ex) (d0:Ex):=(List.take (qBX5+qBX5+qBX5) (qBX8 a0 b0 c0)++ [Ex.mk (Ex.op d0) (Ex.n d0) (Ex.d0 d0) (Ex.d1 d0) (Ex.d2 d0) (Ex.d3 d0) (Ex.l d0)])
abbrev qBXa (a0:PX) (b0:PR Ex):=(isW [(44:Nat)] (qBXd a0)=false->b0=Except.error (qBX4 a0))
abbrev qBX1 (a0:List Tok) (b0:Nat) (c0:PE) (d0:Int) (e0:PR Ex):=(isW [(40:Nat)] a0=false->(isW [(105:Nat),(102:Nat)] a0=true->(isW [(40:Nat)] (List.tail a0)=true->List.length (List.tail (List.tail a0))+qBX5<=b0/\(∀(y:Ex) (x':PX),c0 (List.tail (List.tail a0)) d0=Except.ok (y,x')->(isW [(60:Nat)] (qBXd x')=true->List.length (qBX6 x')+qBX5<=b0/\(∀(y_1:Ex) (x'_1:PX),c0 (qBX6 x') (qBX7 x')=Except.ok (y_1,x'_1)->qBXc/\(isW [(44:Nat)] (qBXd x'_1)=true->List.length (qBX6 x'_1)+qBX5<=b0/\(∀(y_2:Ex) (x':PX),c0 (qBX6 x'_1) (qBX7 x'_1)=Except.ok (y_2,x')->(qBX5+qBX5<=List.length (qBX2 y y_1)/\(0:Nat)<=qBX5+qBX5/\(qBX5+qBX5+qBX5)*(72:Nat)<=(140737488355328:Nat))/\(isW [(44:Nat)] (qBXd x')=true->List.length (qBX6 x')+qBX5<=b0/\(∀(y_3:Ex) (x'_2:PX),c0 (qBX6 x') (qBX7 x')=Except.ok (y_3,x'_2)->(qBX5+qBX5+qBX5<=List.length (qBX8 y y_1 y_2)/\(0:Nat)<=qBX5+qBX5+qBX5/\qBXf*(72:Nat)<=(140737488355328:Nat))/\(isW [(41:Nat)] (qBXd x'_2)=true->(0:Nat)+qBXf<=List.length (qBXe y y_1 y_2 y_3)/\e0=Except.ok (Ex.mk (11:Int) qBX9 qBX9 qBX9 qBX9 qBX9 (List.take qBXf (List.drop (0:Nat) (qBXe y y_1 y_2 y_3))),List.tail (qBXd x'_2),Prod.fst (Prod.snd x'_2),()))/\(qBXb x'_2 e0))/\∀(d0:Int×Int),c0 (qBX6 x') (qBX7 x')=Except.error d0->e0=Except.error d0)/\(qBXa x' e0))/\∀(d0:Int×Int),c0 (qBX6 x'_1) (qBX7 x'_1)=Except.error d0->e0=Except.error d0)/\(qBXa x'_1 e0))/\∀(d0:Int×Int),c0 (qBX6 x') (qBX7 x')=Except.error d0->e0=Except.error d0)/\(isW [(60:Nat)] (qBXd x')=false->e0=Except.error (qBX4 x')))/\∀(e_1:Int×Int),c0 (List.tail (List.tail a0)) d0=Except.error e_1->e0=Except.error e_1)/\(isW [(40:Nat)] (List.tail a0)=false->e0=Except.error (hdT d0 (List.tail a0),(160:Int))))/\(isW [(105:Nat),(102:Nat)] a0=false->(WK.ca=WK.un\/WK.ca=WK.ca)/\(∀(y:Int×Bool×Unit) (x':PX),Zw (WK.words WK.ca) a0 d0=Except.ok (y,x')->(Prod.fst (Prod.snd y)=true->(isW [(40:Nat)] (qBXd x')=true->List.length (qBX6 x')+qBX5<=b0/\(∀(y_1:Ex) (x'_1:PX),c0 (qBX6 x') (qBX7 x')=Except.ok (y_1,x'_1)->(isW [(44:Nat)] (qBXd x'_1)=true->List.length (qBX6 x'_1)+qBX5<=b0/\(∀(y_2:Ex) (x':PX),c0 (qBX6 x'_1) (qBX7 x'_1)=Except.ok (y_2,x')->qBXc/\(isW [(41:Nat)] (qBXd x')=true->(0:Nat)+(qBX5+qBX5)<=List.length (qBX2 y_1 y_2)/\e0=Except.ok (Ex.mk (wr IntKind.i64 ((6:Int)+Prod.fst y)) qBX9 qBX9 qBX9 qBX9 qBX9 (List.take (qBX5+qBX5) (List.drop (0:Nat) (qBX2 y_1 y_2))),List.tail (qBXd x'),Prod.fst (Prod.snd x'),()))/\(qBXb x' e0))/\∀(d0:Int×Int),c0 (qBX6 x'_1) (qBX7 x'_1)=Except.error d0->e0=Except.error d0)/\(qBXa x'_1 e0))/\∀(d0:Int×Int),c0 (qBX6 x') (qBX7 x')=Except.error d0->e0=Except.error d0)/\(isW [(40:Nat)] (qBXd x')=false->e0=Except.error (qBX4 x')))/\(Prod.fst (Prod.snd y)=false->(WK.at_=WK.at_\/WK.at_=WK.ki\/WK.at_=WK.un)/\(∀(y:Int) (x'_1:PX),Yl (WK.words WK.at_) (qBXd x') (qBX7 x')=Except.ok (y,x'_1)->e0=Except.ok (Ex.mk (2:Int) y qBX9 qBX9 qBX9 qBX9 [],Prod.fst x'_1,Prod.fst (Prod.snd x'_1),()))/\∀(d0:Int×Int),Yl (WK.words WK.at_) (qBXd x') (qBX7 x')=Except.error d0->e0=Except.error d0))/\∀(e_1:Int×Int),Zw (WK.words WK.ca) a0 d0=Except.error e_1->e0=Except.error e_1))
abbrev qBX3 (a0:List Tok) (b0:Nat) (c0:PE) (d0:Int) (e0:PR Ex):=(isW [(40:Nat)] a0=true->List.length (List.tail a0)+qBX5<=b0/\(∀(y:Ex) (x':PX),c0 (List.tail a0) d0=Except.ok (y,x')->(isW [(41:Nat)] (qBXd x')=true->e0=Except.ok (Ex.mk (Ex.op y) (Ex.n y) (Ex.d0 y) (Ex.d1 y) (Ex.d2 y) (Ex.d3 y) (Ex.l y),List.tail (qBXd x'),Prod.fst (Prod.snd x'),()))/\(qBXb x' e0))/\∀(e_1:Int×Int),c0 (List.tail a0) d0=Except.error e_1->e0=Except.error e_1)
theorem Zn5 (n:Nat) (pe:PE) (l:List Tok) (e:Int) (out:PR Ex):Zj E (Ffa n pe) (vc E (Ffa n pe) 400) 101 [.ptr 0 0] (one [.psl Th.toks l false,.int false .i64 e]) 1 (mK .nil n0 dEx (fun _=>rfl) l e out)=(
 (((↑(List.length l):Int)==qBX9)=true->(qBX3 l n pe e out)/\(qBX1 l n pe e out))/\(((↑(List.length l):Int)==qBX9)=false->qBX9<=qBX9/\qBX9+(1:Int)<=(↑(List.length l):Int)/\∀(x:Tok),l[Int.toNat qBX9]? =some x->((Tok.kind x !=(2:Int))=true->(qBX3 l n pe e out)/\(qBX1 l n pe e out))/\((Tok.kind x !=(2:Int))=false->qBX9<=qBX9/\qBX9+(1:Int)<=(↑(List.length l):Int)/\∀(x:Tok),l[Int.toNat qBX9]? =some x->True/\(∀(y:Int) (x':PX),pInt l e=Except.ok (y,x')->True/\(∀(y_1:List Int) (x'_1:PX),Vh (qBXd x') (qBX7 x')=Except.ok (y_1,x'_1)->out=Except.ok (Ex.mk (1:Int) y (List.getD y_1 (0:Nat) qBX9) (List.getD y_1 qBX5 qBX9) (List.getD y_1 (2:Nat) qBX9) (List.getD y_1 (3:Nat) qBX9) [],Prod.fst x'_1,Prod.fst (Prod.snd x'_1),()))/\∀(e:Int×Int),Vh (qBXd x') (qBX7 x')=Except.error e->out=Except.error e)/\∀(e_1:Int×Int),pInt l e=Except.error e_1->out=Except.error e_1))):=by kernel_rfl
theorem Z9u {n:Nat} {pe:PE} (hpe:∀l e,l.length<n->Wk (mI .nil n0 dEx (fun _=>rfl)) 69 (l,e,()) () (pe l e)):FnsOk E (Ffa n pe):=Zd (Zd Ze0 Z1c) (Xa E_ok (Zc rfl) fun x _ h=>hpe x.1 x.2.1 h)
theorem Zsm {n : Nat} {pe : PE} (hpe : ∀ l e, l.length < n → Wk (mI .nil n0 dEx (fun _ => rfl)) 69 (l, e, ()) () (pe l e)) (H : Shr pe) (l : List Tok) (e : Int) (hl : l.length < n + 1) :
 Wk (mI .nil n0 dEx (fun _ => rfl)) 101 (l, e, ()) () (pFac pe l e) := by
 refine Vz (Z9u hpe) (n := 400) (a := ()) ?_
 rw [show (DcL.nil (E := E)).enc () = [] from rfl, Zn5]; delta qBX7 qBX9 qBX5 qBXc qBXd qBX6 qBX2 qBX8 qBX4 qBXb qBXf qBXe qBXa qBX1 qBX3
 refine ⟨fun h0 => ?_, fun h0 => ⟨(Ziu h0).1, (Ziu h0).2, fun x hx => ⟨fun h2 => ?_, fun h2 => ?_⟩⟩⟩
 · rw [Z09 h0]; clear h0
   repeat' (first | refine Z9s fun _ _ => ?_ | refine Z3l H fun _ _ _ _ => ?_ | refine Z3m (fun _ _ _ _ _ _ => ?_) (fun _ _ _ _ => ?_) | apply And.intro | intro _)
   all_goals first | exact .inr rfl | exact .inl rfl | exact trivial | omega | simp [Za7, pOps, pOpL, Zit, Ut, sIf, Uu, Zxb, Ex.eta, *]
 · rw [Z1a hx h2]; clear h0 hx h2
   repeat' (first | refine Z9s fun _ _ => ?_ | refine Z3l H fun _ _ _ _ => ?_ | refine Z3m (fun _ _ _ _ _ _ => ?_) (fun _ _ _ _ => ?_) | apply And.intro | intro _)
   all_goals first | exact .inr rfl | exact .inl rfl | exact trivial | omega | simp [Za7, pOps, pOpL, Zit, Ut, sIf, Uu, Zxb, Ex.eta, *]
 · obtain ⟨r, rfl, hk, hi⟩ := Z1b (e := e) hx h2
   refine ⟨(Ziu h0).1, (Ziu h0).2, fun _ _ => ⟨trivial, fun y x' h3 => ?_, fun er h3 => by rw [hi] at h3; cases h3⟩⟩
   rw [hi] at h3
   injection h3 with h3
   injection h3 with h3 h4
   subst h3; subst h4
   refine ⟨trivial, fun d x2 h5 => ?_, fun er h5 => ?_⟩
   · simp [pFac, hk, h5]
   · simp [pFac, hk, h5]
end
section
open Go.RowKit
section
variable {Y : Thy} {E : Eng Y}
def two (cs:List (SV Y)):Hp Y:=fun b=>match Nat.beq b 0 with|true=>some (.raw cs 0 none)|false=>(match Nat.beq b 1 with|true=>some (.raw [.ptr 0 0] 0 none)|false=>none)
theorem Z15 (cs:List (SV Y)):two cs 0=some (.raw cs 0 none):=rfl
theorem Yac (cs:List (SV Y)):two cs 1=some (.raw [.ptr 0 0] 0 none):=rfl
theorem Zi6 {cs:List (SV Y)} {b:Nat} {x:Blk Y} (h:two cs b=some x):(b=0/\x= .raw cs 0 none)\/(b=1/\x= .raw [.ptr 0 0] 0 none):=by
 match b,h with
 |0,h=>cases h;exact .inl ⟨rfl,rfl⟩
 |1,h=>cases h;exact .inr ⟨rfl,rfl⟩
 |b+2,h=>cases h
theorem Z7d (cs:List (SV Y)):DomLt (two cs) 2:=fun b hb=>by
 obtain ⟨x,hx⟩:=Option.ne_none_iff_exists'.1 hb
 rcases Zi6 hx with ⟨rfl,_⟩|⟨rfl,_⟩<;>omega
def σ2 (p q:Nat×Nat):Pl:=fun b=>match Nat.beq b 0 with|true=>some p|false=>(match Nat.beq b 1 with|true=>some q|false=>none)
theorem σ2_some {p q x:Nat×Nat} {b:Nat} (h:σ2 p q b=some x):(b=0/\x=p)\/(b=1/\x=q):=by
 match b,h with
 |0,h=>cases h;exact .inl ⟨rfl,rfl⟩
 |1,h=>cases h;exact .inr ⟨rfl,rfl⟩
 |b+2,h=>cases h
theorem Zou (cs cs':List (SV Y)) (v:SV Y):patch (two cs) 2 (mutR v cs')=two cs':=by
 funext b
 rw [Ze]
 match b with
 |0=>simp [mutR,at1,two]
 |1=>rw [if_neg (by simp [mutR])];rfl
 |b+2=>rw [if_neg (by simp [mutR])];rfl
def Yad (E:Eng Y) (f:FuncId) (cs rest:List (SV Y)) (v:SV Y) (cs':List (SV Y)):Prop:=Za1 E f (.ptr 1 0::rest) (two cs) 2 (mutR v cs')
def Yae (E:Eng Y) (f:FuncId) (cs rest:List (SV Y)) (p:Value):Prop:=Zl6 E f (.ptr 1 0::rest) (two cs) 2 (panR p)
theorem Zov (hE:EngOk E) {B:Nat} {σ:Pl} {h:Hp Y} {g:GH} {w:World} {b r z c r1 z1:Nat} {cs cs0:List (SV Y)} {fc:Nat} {tg tc:Option Y.Th} (hI:Inv E B σ h g w) (hb:h b=some (.raw cs 0 tg)) (hc:h c=some (.raw [.ptr b 0] fc tc)) (hσ:σ b=some (r,z)) (hσc:σ c=some (r1,z1)) (hbc:b≠c) (hfc:fc=0) (hlen:cs.length=cs0.length) (hn:nidL 0 cs0=true)
 (hden:∀σ g (j:Nat) sv',cs0[j]? =some sv'->∃sv,cs[j]? =some sv/\∀u,Den E σ g sv u->Den E σ g sv' u):Inv E B (σ2 (r,z) (r1,z1)) (two cs0) g w:=by
 have hne:r≠r1:=by
  rintro rfl
  exact hbc (hI.inj b c _ _ _ (by rw [hb];simp) (by rw [hc];simp) hσ hσc)
 refine ⟨hI.gc,hI.gm,fun x y hx=> ?_,fun x x' q z2 z3 h1 h2 h3 h4=> ?_,fun x q z' hs=> ?_,fun x y q z' o v hx hs hv=> ?_,fun x y q z' hx hs=> ?_,hI.glob⟩
 · rcases Zi6 hx with ⟨rfl,rfl⟩|⟨rfl,rfl⟩
   · refine ⟨r,z,rfl,?_⟩
     obtain ⟨r',z',hσ',arr,e,k1,k2,k3,k4,k5⟩:=hI.blk b _ hb
     rw [hσ] at hσ';cases hσ'
     refine ⟨arr,e,k1,k2,?_,fun j sv' hj=> ?_,trivial⟩
     · simp only [Blk.cells] at k3⊢;omega
     · obtain ⟨sv,h1,h2⟩:=hden σ g j sv' hj
       obtain ⟨v,m1,m2⟩:=k4 j sv h1
       exact ⟨v,m1,Zy hE (h2 v m2) (fun b p hb=>by omega) (Zp hn hj)⟩
   · refine ⟨r1,z1,rfl,?_⟩
     obtain ⟨r',z',hσ',arr,e,k1,k2,k3,k4,k5⟩:=hI.blk c _ hc
     rw [hσc] at hσ';cases hσ'
     refine ⟨arr,e,k1,k2,k3,fun j sv' hj=> ?_,trivial⟩
     cases j with
     |zero=>
      cases hj
      obtain ⟨v,m1,m2⟩:=k4 0 _ rfl
      refine ⟨v,m1,?_⟩
      cases m2
      rename_i hs
      rw [hσ] at hs;cases hs
      exact .ptr (E:=E) (b:=0) rfl
     |succ j=>cases hj
 · rcases σ2_some h3 with ⟨rfl,e1⟩|⟨rfl,e1⟩<;>rcases σ2_some h4 with ⟨rfl,e2⟩|⟨rfl,e2⟩
   · rfl
   · cases e1;cases e2;exact absurd rfl hne
   · cases e1;cases e2;exact absurd rfl hne
   · rfl
 · rcases σ2_some hs with ⟨rfl,e⟩|⟨rfl,e⟩
   · cases e;exact hI.base b _ _ hσ
   · cases e;exact hI.base c _ _ hσc
 · rcases σ2_some hs with ⟨rfl,e⟩|⟨rfl,e⟩
   · cases e
     have h2:o<0:=hI.fz b (.raw cs 0 tg) _ _ o v hb hσ hv
     omega
   · cases e
     subst hfc
     have h2:o<0:=hI.fz c (.raw [.ptr b 0] 0 tc) _ _ o v hc hσc hv
     omega
 · rcases σ2_some hs with ⟨rfl,e⟩|⟨rfl,e⟩
   · cases e;exact hI.fm b _ _ _ hb hσ
   · cases e;exact hI.fm c _ _ _ hc hσc
section
variable {X α β ε : Type}
def Zch (M:MutI E X α β ε) (f:FuncId) (x:X) (a:α) (out:Except ε (β×X)):Prop:=
 match out with
 | .ok (y,x')=>Yad E f (M.dS.enc x) (M.dA.enc a) (M.v y) (M.dS.enc x')
 | .error e=>Yae E f (M.dS.enc x) (M.dA.enc a) (M.pv e)
def Zyk (M:MutI E X α β ε) (pre:X->α->Prop) (f:X->α->Except ε (β×X)):Sum Y:=fun args h _ k=>
 match args with
 | .ptr c 0::rest=>
  (match h c with
  |some (.raw [.ptr b 0] 0 _)=>
   (match Nat.beq b c,h b with
   |false,some (.raw cs 0 _)=>
    (match M.dS.dec cs,M.dA.dec rest with
    |some x,some a=>pre x a/\(∀y x',f x a= .ok (y,x')->k (Zgq b (M.v y) (M.dS.enc x')))/\(∀e,f x a= .error e->k (Zul b (M.pv e)))
    |_,_=>False)
   |_,_=>False)
  |_=>False)
 |_=>False
theorem Zlg {M:DcL E α} {rest:List (SV Y)} {a:α} (hE:EngOk E) (hr:M.dec rest=some a) (hn:nidL 0 (M.enc a)=true) {c:Nat} {p q:Nat×Nat} {σ:Pl} {g:GH} {vals:List Value} (hσ:σ c=some q) (hd:DenL E σ g (.ptr c 0::rest) vals):DenL E (σ2 p q) g (.ptr 1 0::M.enc a) vals:=by
 obtain ⟨k1,k2,k3⟩:=M.ok _ _ hr
 refine ⟨by rw [<-hd.1];simp [k2],fun j sv u h1 h2=> ?_⟩
 cases j with
 |zero=>
  simp at h1;subst h1
  have:=hd.2 0 _ u rfl h2
  cases this
  rename_i hs
  rw [hσ] at hs;cases hs
  exact .ptr (E:=E) (b:=1) rfl
 |succ j=>
  have h1:(M.enc a)[j]? =some sv:=by simpa using h1
  obtain ⟨s0,h3,h4⟩:=k3 σ g j sv h1
  exact Zy hE (h4 u (hd.2 (j+1) s0 u (by simpa using h3) h2)) (fun b p hb=>by omega) (Zp hn h1)
theorem Zi7 (hE:EngOk E) {f:Nat} (hg:FnGood E.P f) {M:MutI E X α β ε} {pre:X->α->Prop} {fn:X->α->Except ε (β×X)} (hp:∀x a,pre x a->Zch M f x a (fn x a)):SumOk E f (Zyk M pre fn):=by
 refine ⟨hg,fun args h i k hD hk=> ?_⟩
 unfold Zyk at hk
 split at hk
 case h_2=>exact hk.elim
 rename_i c rest
 split at hk
 case h_2=>exact hk.elim
 rename_i b tc hc
 split at hk
 case h_2=>exact hk.elim
 rename_i cs tg hbc hb
 have hbc:b≠c:=by intro e;subst e;rw [Nat.beq_refl] at hbc;cases hbc
 split at hk
 case h_2=>exact hk.elim
 rename_i x a hx ha
 obtain ⟨hpp,hk1,hk2⟩:=hk
 have hm:=hp x a hpp
 obtain ⟨c1,c2,c3⟩:=M.dS.ok _ _ hx
 have hbn:h b≠none:=by rw [hb];simp
 unfold Zch at hm
 split at hm
 · rename_i y x' ho
   refine ⟨_,hk1 y x' ho,fun b' hb'=>by
    have:b'∈ [b]:=hb'
    rw [List.mem_singleton] at this
    rw [this];exact hbn,.inl ?_⟩
   intro B σ g w vals hh hrd hI hB hfree hd
   obtain rfl:hh=h:=funext fun b=>hrd b trivial
   obtain ⟨r,z,hσ,_⟩:=hI.blk b _ hb
   obtain ⟨r1,z1,hσc,_⟩:=hI.blk c _ hc
   refine (hm B (σ2 (r,z) (r1,z1)) g w vals _ (fun _ _=>rfl) (Zov hE hI hb hc hσ hσc hbc rfl c2 (M.hS x) c3) hB (fun c h1 h2=>by simp [mutR] at h2;omega) (Zlg hE ha (M.hA a) hσc hd)).mono ?_
   rintro en w' ⟨u,he,σ',g',hS,hI',hv⟩
   rw [Zou] at hI'
   obtain ⟨q1,q2⟩:=Wn hE (i:=i) (v:=M.v y) (v0:=M.v y) (x':=some (M.dS.enc x')) hI hb hσ rfl hS hI' (fun c hc=>by cases hc;rfl) (fun c hc=>by cases hc;exact M.hS x')
   exact ⟨u,he,σ,g',q1,q2,Zy hE hv (fun b p hb=>by omega) (M.hv y)⟩
 · rename_i e ho
   refine ⟨_,hk2 e ho,fun b' hb'=>by
    have:b'∈ [b]:=hb'
    rw [List.mem_singleton] at this
    rw [this];exact hbn,.inr ?_⟩
   obtain ⟨p,hp',hm⟩:=hm
   have hp':(SV.pan (M.pv e):SV Y)= .pan p:=hp'
   cases hp'
   refine ⟨_,rfl,fun B σ g w vals hI hB hfree hd=> ?_⟩
   obtain ⟨r,z,hσ,_⟩:=hI.blk b _ hb
   obtain ⟨r1,z1,hσc,_⟩:=hI.blk c _ hc
   refine (hm B (σ2 (r,z) (r1,z1)) g w vals (Zov hE hI hb hc hσ hσc hbc rfl c2 (M.hS x) c3) hB (fun c h1 h2=>by simp [panR] at h2;omega) (Zlg hE ha (M.hA a) hσc hd)).mono ?_
   rintro en w' ⟨he,σ',g',hS,hI'⟩
   obtain ⟨q1,q2⟩:=Wn hE (i:=i) (v:= .pan (M.pv e)) (v0:= .unk) (x':=none) hI hb hσ rfl hS hI' (fun c hc=>by cases hc) (fun c hc=>by cases hc)
   exact ⟨he,σ,g',q1,q2⟩
theorem Z16 {B:Nat} {p q:Nat×Nat} {h:Hp Y} {g g':GH} {w w':World} {σ':Pl} {n:Nat} {mods:List Nat} (hmods:∀b∈mods,b=0) (hS:Stp 2 n mods (σ2 p q) g w σ' g' w') (hI':Inv E B σ' h g' w') (h0:h 0≠none):∀b r z,b≠0->b≠1->h b≠none->σ' b=some (r,z)->w.heap.size<=r:=by
 intro b r z hb hb1 hn hs
 have hs0:σ2 p q b=none:=by
  match b with
  |0=>exact absurd rfl hb
  |1=>exact absurd rfl hb1
  |b+2=>rfl
 rcases hS.blk b r z hs0 hs with h1|⟨b',h1,z',h2⟩
 · exact h1
 · obtain rfl:=hmods b' h1
   have h3:=hS.sig 0 _ h2
   exact absurd (hI'.inj b 0 r z z' hn h0 hs h3) hb
noncomputable def Z7e (M:MutI E X α β ε) (gth:List (SV Y)->Option Y.Th) (n:Nat) (dec:SV Y->Option β) (decP:Value->Option ε) (x:X) (out:Except ε (β×X)) (r:Res Y):Prop:=
 match memB 1 r.mods with
 |true=>False
 |false=>(match Uc r.v with
  |some q=>(match decP q with|some e=>out= .error e|none=>False)
  |none=>frzK E gth (patch (two (M.dS.enc x)) 2 r) n r.v fun v' bs=>
   (match patch (two (M.dS.enc x)) 2 r 0 with
   |some (.raw c2 0 _)=>frzL (frzK E gth (patch (two (M.dS.enc x)) 2 r) n) c2 fun cs' bs'=>
    (match memB 0 (bs++bs')||memB 1 (bs++bs'),dec v',M.dS.dec cs' with
    |false,some y,some x'=>out= .ok (y,x')
    |_,_,_=>False)
   |_=>False))
theorem Z17 (hE:EngOk E) {l:List (SV Y)} (hn:nidL 0 l=true) {p q:Nat×Nat} {σ:Pl} {g:GH} {vals:List Value} (hσ:σ 1=some q) (hd:DenL E σ g (.ptr 1 0::l) vals):DenL E (σ2 p q) g (.ptr 1 0::l) vals:=by
 refine ⟨hd.1,fun j sv u h1 h2=> ?_⟩
 cases j with
 |zero=>
  simp at h1;subst h1
  have:=hd.2 0 _ u rfl h2
  cases this
  rename_i hs
  rw [hσ] at hs;cases hs
  exact .ptr (E:=E) (b:=1) rfl
 |succ j=>
  have h1:l[j]? =some sv:=by simpa using h1
  exact Zy hE (hd.2 (j+1) sv u (by simpa using h1) h2) (fun b p hb=>by omega) (Zp hn h1)
theorem Zlh (hE:EngOk E) {call:Nat->List (SV Y)->Hp Y->Nat->(Res Y->Prop)->Prop} (hcall:Wo E call) {M:MutI E X α β ε} {gth:List (SV Y)->Option Y.Th} {n:Nat} {dec:SV Y->Option β} {decP:Value->Option ε} (hdec:∀v y,dec v=some y->∀σ g u,Den E σ g v u->Den E σ g (M.v y) u) (hdecP:∀q e,decP q=some e->M.pv e=q)
 {f:Nat} {x:X} {a:α} {out:Except ε (β×X)} (hk:call f (.ptr 1 0::M.dA.enc a) (two (M.dS.enc x)) 2 (Z7e M gth n dec decP x out)):Zch M f x a out:=by
 obtain ⟨r,hr,hR,htri⟩:=hcall f _ _ _ _ (Z7d _) hk
 unfold Z7e at hr
 split at hr
 · exact hr.elim
 rename_i hm1
 have hmods:∀b∈r.mods,b=0:=fun b hb=>by
  obtain ⟨y,hy⟩:=Option.ne_none_iff_exists'.1 (hR b hb)
  rcases Zi6 hy with ⟨e,_⟩|⟨e,_⟩
  · exact e
  · subst e;rw [memB_iff.2 hb] at hm1;cases hm1
 have free1:∀(p q:Nat×Nat) (b:Nat),2<=b->b<2+r.n->σ2 p q b=none:=by
  intro p q b hb _
  match b,hb with
  |b+2,_=>rfl
 have stp:∀(p q:Nat×Nat) (g g' g'':GH) (w w':World) (σ':Pl),Stp 2 r.n r.mods (σ2 p q) g w σ' g' w'->g'.le g''->(∀q o v,g''.cell q o=some v->g'.cell q o=some v\/w.heap.size<=q)->(∀q es,g''.obj q=some es->g'.obj q=some es\/w.heap.size<=q)->Stp 2 0 [0] (σ2 p q) g w (σ2 p q) g'' w':=by
  intro p q g g' g'' w w' σ' hS hle hc hm
  refine ⟨.refl _,fun b q h=> .inl h,hS.gle.trans hle,fun q o v hv=> ?_,fun q es hv=> ?_,fun q hq hx=>hS.heap q hq fun b hb=>hx b (by rw [hmods b hb];simp),hS.size,hS.os,hS.tape,hS.output,fun b q z h1 h2=>by rw [h1] at h2;cases h2⟩
  · rcases hc q o v hv with h1|h1
    · rcases hS.gcnew q o v h1 with h2|h2|⟨b,h2,h3⟩
      · exact .inl h2
      · exact .inr (.inl h2)
      · exact .inr (.inr ⟨b,by rw [hmods b h2];simp,h3⟩)
    · exact .inr (.inl h1)
  · rcases hm q es hv with h1|h1
    · exact hS.gmnew q es h1
    · exact .inr h1
 have start:∀(B:Nat) (σ:Pl) (g:GH) (w:World) (vals:Array Value),Inv E B σ (two (M.dS.enc x)) g w->DenL E σ g (.ptr 1 0::M.dA.enc a) vals.toList->∃rr zz r1 z1,σ 0=some (rr,zz)/\σ 1=some (r1,z1)/\Inv E B (σ2 (rr,zz) (r1,z1)) (two (M.dS.enc x)) g w/\DenL E (σ2 (rr,zz) (r1,z1)) g (.ptr 1 0::M.dA.enc a) vals.toList:=by
  intro B σ g w vals hI hd
  obtain ⟨rr,zz,hσ,_⟩:=hI.blk 0 _ (Z15 _)
  obtain ⟨r1,z1,hσ1,_⟩:=hI.blk 1 _ (Yac _)
  exact ⟨rr,zz,r1,z1,hσ,hσ1,Zov hE hI (Z15 _) (Yac _) hσ hσ1 (by omega) rfl rfl (M.hS x) (fun σ g j sv' hj=>⟨sv',hj,fun u h=>h⟩),Z17 hE (M.hA a) hσ1 hd⟩
 split at hr
 · rename_i q hq
   split at hr
   case h_2=>exact hr.elim
   rename_i e he
   subst hr
   show Yae E f _ _ (M.pv e)
   refine ⟨_,rfl,fun B σ g w vals hI hB hfree hd=> ?_⟩
   obtain ⟨rr,zz,r1,z1,hσ,hσ1,hI1,hd1⟩:=start B σ g w vals hI hd
   refine (htri.panic hq hI1 hB (free1 _ _) hd1).mono ?_
   rintro en w' ⟨rfl,σ',g',hS,hI'⟩
   refine ⟨by rw [hdecP q e he],?_⟩
   have hS1:=stp _ _ g g' g' w w' σ' hS (.refl _) (fun _ _ _ h=> .inl h) (fun _ _ h=> .inl h)
   have hI2:Inv E B (σ2 (rr,zz) (r1,z1)) (fun _=>none) g' w':=⟨hI'.gc,hI'.gm,(fun b x hx=>by cases hx),fun b b' r z z' h1=>absurd rfl h1,fun b r z hs=>⟨(hI1.base b r z hs).1,Nat.lt_of_lt_of_le (hI1.base b r z hs).2 hS.size⟩,(fun b x r z o v hx=>by cases hx),(fun b x r z hx=>by cases hx),hI'.glob⟩
   obtain ⟨q1,q2⟩:=Wn hE (i:=2) (v:= .pan (M.pv e)) (v0:= .unk) (x':=none) hI (Z15 _) hσ rfl hS1 hI2 (fun c hc=>by cases hc) (fun c hc=>by cases hc)
   refine ⟨σ,g',q1,?_⟩
   have e2:patch (two (M.dS.enc x)) 2 ⟨.pan (M.pv e),0,[0],at1 0 (rawO none),none⟩=patch (two (M.dS.enc x)) 2 (panR (M.pv e)):=by
    funext b
    rw [Ze,Ze]
    by_cases c:b=0
    · subst c
      rw [if_pos (by simp),if_pos (by simp [panR])]
      rfl
    · rw [if_neg (by simp [c]),if_neg (by simp [panR,c])]
   rw [<-e2];exact q2
 · rename_i hq
   have htri:=htri.tri hq
   obtain ⟨v',bs,hr,o1⟩:=Uq hE n r.v _ hr
   split at hr
   case h_2=>exact hr.elim
   rename_i c2 tg h0
   obtain ⟨cs',bs',hr,o2⟩:=W1 (Uq hE n) hr
   split at hr
   case h_2=>exact hr.elim
   rename_i y x' hmem hy hx'
   rw [Bool.or_eq_false_iff] at hmem
   subst hr
   show Yad E f _ _ (M.v y) _
   intro B σ g w vals hh hrd hI hB hfree hd
   obtain rfl:hh=two (M.dS.enc x):=funext fun b=>hrd b trivial
   obtain ⟨rr,zz,r1,z1,hσ,hσ1,hI1,hd1⟩:=start B σ g w vals hI hd
   refine (htri B _ g w vals _ (fun _ _=>rfl) hI1 hB (free1 _ _) hd1).mono ?_
   rintro en w' ⟨u,rfl,σ',g',hS,hI',hv⟩
   refine ⟨u,rfl,?_⟩
   have hs0:σ' 0=some (rr,zz):=hS.sig 0 _ rfl
   have hrr:rr<w.heap.size:=(hI1.base 0 rr zz rfl).2
   have hfar:=Z16 hmods hS hI' (by rw [h0];simp)
   have hle:=Zba (n:=w.heap.size) hI'
   have hkept:Kept E (patch (two (M.dS.enc x)) 2 r) σ' (bs++bs') w' (allG g' w.heap.size w'):=by
    intro b hb q z y1 hs hy1 j v hj hv
    have hb0:b≠0:=by
     rintro rfl
     have:=memB_iff.2 hb
     rw [this] at hmem;cases hmem.1
    have hb1:b≠1:=by
     rintro rfl
     have:=memB_iff.2 hb
     rw [this] at hmem;cases hmem.2
    show (if w.heap.size<=q then w'.cell? ⟨q,j,none⟩ else g'.cell q j)=some v
    rw [if_pos (hfar b q z hb0 hb1 (by rw [hy1];simp) hs)]
    exact hv
   have hval:=o1.den _ σ' g' w' B u _ (fun _ _=>rfl) hI' hle (hkept.sub fun b hb=>List.mem_append_left _ hb) hv
   have hcell:∀q o v,(allG g' w.heap.size w').cell q o=some v->g'.cell q o=some v\/w.heap.size<=q:=by
    intro q o v hv
    have hv:(if w.heap.size<=q then w'.cell? ⟨q,o,none⟩ else g'.cell q o)=some v:=hv
    split at hv
    · exact .inr (by assumption)
    · exact .inl hv
   have hobj:∀q es,(allG g' w.heap.size w').obj q=some es->g'.obj q=some es\/w.heap.size<=q:=by
    intro q es hv
    have hv:(if w.heap.size<=q then (match w'.heap[q]? with|some (.map es _)=>some es|_=>none) else g'.obj q)=some es:=hv
    split at hv
    · exact .inr (by assumption)
    · exact .inl hv
   have hS1:=stp _ _ g g' _ w w' σ' hS hle hcell hobj
   have hG:=Zd3 (n:=w.heap.size) (B':=B) hI'
   obtain ⟨c1,c2',c3⟩:=M.dS.ok _ _ hx'
   have hI2:Inv E B (σ2 (rr,zz) (r1,z1)) (one (M.dS.enc x')) (allG g' w.heap.size w') w':=by
    refine ⟨hG.gc,hG.gm,fun b y1 hy1=> ?_,fun b b' q z z' h1 h2 _ _=>by rw [Zbp h1,Zbp h2],fun b q z hs=>⟨(hI1.base b q z hs).1,Nat.lt_of_lt_of_le (hI1.base b q z hs).2 hS.size⟩,fun b y1 q z o v hy1 hs hv=> ?_,fun b y1 q z hy1 hs=> ?_,hG.glob⟩
    · obtain ⟨rfl,rfl⟩:=Vg hy1
      refine ⟨rr,zz,rfl,?_⟩
      obtain ⟨r2,z2,m1,arr,e,k1,k2,k3,k4,k5⟩:=hI'.blk 0 _ h0
      rw [hs0] at m1;cases m1
      have hl:cs'.length=c2.length:=o2.len
      refine ⟨arr,e,k1,k2,?_,fun j sv hj=> ?_,trivial⟩
      · simp only [Blk.cells] at k3⊢;omega
      · obtain ⟨s1,h1,h2⟩:=c3 σ0 (allG g' w.heap.size w') j sv hj
        have hjl:j<c2.length:=by rw [<-hl];exact (List.getElem?_eq_some_iff.1 h1).1
        obtain ⟨v,m1,m2⟩:=k4 j _ (List.getElem?_eq_getElem hjl)
        have:=o2.den _ σ' g' w' B _ (fun _ _=>rfl) hI' hle (hkept.sub fun b hb=>List.mem_append_right _ hb) j _ s1 v (List.getElem?_eq_getElem hjl) h1 m2
        exact ⟨v,m1,(h2 v this).mono (fun b p h=>by cases h) (.refl _)⟩
    · obtain ⟨rfl,rfl⟩:=Vg hy1
      rcases σ2_some hs with ⟨_,e⟩|⟨e0,_⟩
      case inr=>omega
      cases e
      rcases hcell _ o v hv with h1|h1
      · have h2:o<0:=hI'.fz 0 (.raw c2 0 tg) _ _ o v h0 hs0 h1
        omega
      · omega
    · obtain ⟨rfl,rfl⟩:=Vg hy1
      rcases σ2_some hs with ⟨_,e⟩|⟨e0,_⟩
      case inr=>omega
      cases e
      cases hg':(allG g' w.heap.size w').obj rr with
      |none=>rfl
      |some es=>
       rcases hobj _ es hg' with h1|h1
       · rw [hI'.fm 0 _ _ _ h0 hs0] at h1;cases h1
       · omega
   obtain ⟨q1,q2⟩:=Wn hE (i:=2) (v:=M.v y) (v0:= .unk) (x':=some (M.dS.enc x')) hI (Z15 _) hσ rfl hS1 hI2 (fun c hc=>by cases hc;rfl) (fun c hc=>by cases hc;exact M.hS x')
   exact ⟨σ,_,q1,q2,(hdec v' y hy _ _ u hval).mono (fun b p h=>by cases h) (.refl _)⟩
end
end
end
section
open Go
noncomputable def mK2 {α β:Type} (dA:DcL E α) (hA:∀a,nidL 0 (dA.enc a)=true) (d:Dc E β) (hv:∀y,nid 0 (d.enc y)=true) (l:List Tok) (e:Int) (out:PR β):Res thy->Prop:=
 Z7e (mI dA hA d hv) (fun _=>none) 3 d.dec Zpz (l,e,()) out
theorem Zn1 {F:Fns thy} (hF:FnsOk E F) {n:Nat} {α β:Type} {dA:DcL E α} {hA:∀a,nidL 0 (dA.enc a)=true} {d:Dc E β} {hv:∀y,nid 0 (d.enc y)=true} {f:Nat} {l:List Tok} {e:Int} {a:α} {out:PR β}
 (hk:Zj E F (vc E F n) f (.ptr 1 0::dA.enc a) (two [.psl Th.toks l false,.int false .i64 e]) 2 (mK2 dA hA d hv l e out)):Zch (mI dA hA d hv) f (l,e,()) a out:=
 Zlh E_ok (Zh E_ok hF n) (fun v y h=>(d.ok v y h).2.2) Zkg (x:=(l,e,())) hk
def sMul:List Nat:= [42]
def Zfe:List Nat:= [43]
def Zcc:List Nat:= [45]
def op1 (l:List Tok):Int×List Tok:=if isW sMul l then (5,l.tail) else (0,l)
def op2 (l:List Tok):Int×List Tok:=if isW Zfe l then (3,l.tail) else if isW Zcc l then (4,l.tail) else (0,l)
def pOp (o:List Tok->Int×List Tok) (l:List Tok) (e:Int):PR Int:= .ok ((o l).1,(o l).2,e,())
theorem Z05 (l:List Tok) (e:Int) (out:PR Int):Zj E Fme (vc E Fme 400) 102 [.ptr 1 0] (two [.psl Th.toks l false,.int false .i64 e]) 2 (mK2 .nil n0 dN (fun _=>rfl) l e out)=(
(isW [(42:Nat)] l=true->out=Except.ok ((5:Int),List.tail l,e,()))/\(isW [(42:Nat)] l=false->out=Except.ok ((0:Int),l,e,()))):=by kernel_rfl
theorem Z06 (l:List Tok) (e:Int) (out:PR Int):Zj E Fme (vc E Fme 400) 103 [.ptr 1 0] (two [.psl Th.toks l false,.int false .i64 e]) 2 (mK2 .nil n0 dN (fun _=>rfl) l e out)=(
(isW [(43:Nat)] l=true->out=Except.ok ((3:Int),List.tail l,e,()))/\(isW [(43:Nat)] l=false->(isW [(45:Nat)] l=true->out=Except.ok ((4:Int),List.tail l,e,()))/\(isW [(45:Nat)] l=false->out=Except.ok ((0:Int),l,e,())))):=by kernel_rfl
theorem Z6p (l:List Tok) (e:Int):Zch (mI .nil n0 dN (fun _=>rfl)) 102 (l,e,()) () (pOp op1 l e):=by
 refine Zn1 Ze0 (n:=400) (a:=()) ?_
 rw [show (DcL.nil (E:=E)).enc ()= [] from rfl,Z05]
 exact ⟨fun h=>by simp [pOp,op1,sMul,h],fun h=>by simp [pOp,op1,sMul,h]⟩
theorem Z6q (l:List Tok) (e:Int):Zch (mI .nil n0 dN (fun _=>rfl)) 103 (l,e,()) () (pOp op2 l e):=by
 refine Zn1 Ze0 (n:=400) (a:=()) ?_
 rw [show (DcL.nil (E:=E)).enc ()= [] from rfl,Z06]
 exact ⟨fun h=>by simp [pOp,op2,Zfe,h],fun h=>⟨fun h2=>by simp [pOp,op2,Zfe,Zcc,h,h2],fun h2=>by simp [pOp,op2,Zfe,Zcc,h,h2]⟩⟩
theorem Zn2 (l:List Tok):(op1 l).2.length<=l.length:=by
 unfold op1;split
 · have:=Zm (by assumption);show l.tail.length<=_;omega
 · exact Nat.le_refl _
theorem Zn3 (l:List Tok):(op2 l).2.length<=l.length:=by
 unfold op2;split
 · have:=Zm (by assumption);show l.tail.length<=_;omega
 · split
   · have:=Zm (by assumption);show l.tail.length<=_;omega
   · exact Nat.le_refl _
def Yu (o:List Tok->Int×List Tok) (pf:PE):Nat->Ex->Int->List Tok->Int->PR Ex
 |0,x,_,l,e=> .ok (x,l,e,())
 |k+1,x,op,l,e=>
  if op=0 then .ok (x,l,e,())
  else match pf l e with
   | .error er=> .error er
   | .ok (y,z)=>Yu o pf k (.mk op 0 0 0 0 0 [x,y]) (o z.1).1 (o z.1).2 z.2.1
def pCh (o:List Tok->Int×List Tok) (pf:PE) (l:List Tok) (e:Int):PR Ex:=
 match pf l e with
 | .error er=> .error er
 | .ok (y,z)=>Yu o pf ((o z.1).2.length+1) y (o z.1).1 (o z.1).2 z.2.1
noncomputable def Sop1:Sum thy:=Zyk (mI .nil n0 dN (fun _=>rfl)) (fun _ _=>True) fun x _=>pOp op1 x.1 x.2.1
noncomputable def Sop2:Sum thy:=Zyk (mI .nil n0 dN (fun _=>rfl)) (fun _ _=>True) fun x _=>pOp op2 x.1 x.2.1
theorem Z6r:SumOk E 102 Sop1:=Zi7 E_ok (Zc rfl) fun x _ _=>Z6p x.1 x.2.1
theorem Z6s:SumOk E 103 Sop2:=Zi7 E_ok (Zc rfl) fun x _ _=>Z6q x.1 x.2.1
structure CX where
 e:Ex
 op:Int
 l:List Tok
 ed:Int
 k:Nat
def celP (T:Fr thy):Nat:=match T 2 with| .fn _ _ [.ptr c _]=>c|_=>0
def parP (T:Fr thy) (h:Hp thy):Nat:=match h (celP T) with|some (.raw [.ptr p _] _ _)=>p|_=>0
noncomputable def Ach:Fr thy->Hp thy->Nat->Ann thy:=fun T h i=>{X:=CX,fr:=fun x=> [(1,T 1),(2,T 2),(6,T 6),(7,T 7),(8,.int false .i64 x.op)],bl:=fun x=>(parP T h,.raw [.psl Th.toks x.l false,.int false .i64 x.ed] 0 none)::(celP T,.raw [.ptr (parP T h) 0] 0 none)::(bOf (T 7),.raw (E.enc Th.exprs x.e) 0 none)::blkP h (T 6),src:=fun _=> [],md:= [parP T h,bOf (T 7)],ih:=i,M:=i+60,meas:=fun x=>x.k,fz:= [7]}
noncomputable def Sfac (n:Nat) (pf:PE):Sum thy:=sumM (mI .nil n0 dEx (fun _=>rfl)) (fun x _=>x.1.length<n) fun x _=>pf x.1 x.2.1
noncomputable def Stm (n:Nat) (pf:PE):Sum thy:=Zyk (mI .nil n0 dEx (fun _=>rfl)) (fun x _=>x.1.length<n) fun x _=>pf x.1 x.2.1
noncomputable def Ftm (n:Nat) (pf:PE):Fns thy:=addL (addS (addS F0 101 (Sfac n pf)) 102 Sop1) 100 3 Ach E
noncomputable def Fxp (n:Nat) (pf:PE):Fns thy:=addL (addS (addS F0 99 (Stm n pf)) 103 Sop2) 100 3 Ach E
abbrev qBZ5:=(0:Nat)
abbrev qBZ3:=(0:Int)
abbrev qBZ1:=(qBZ3=qBZ3/\qBZ3=qBZ3/\qBZ3=qBZ3/\qBZ3=qBZ3/\qBZ3=qBZ3/\qBZ3=qBZ3/\Value.slice none qBZ5 qBZ5=Value.slice none qBZ5 qBZ5/\True)
abbrev qBZ2 (a0:Int) (b0:CX):=((Fn.func (101:Nat)=Fn.func (101:Nat)/\(qBZ5=qBZ5/\True)/\True)/\(Fn.func (102:Nat)=Fn.func (102:Nat)/\True/\qBZ5=qBZ5/\True)/\qBZ5=qBZ5/\qBZ5=qBZ5/\a0=CX.op b0/\True)
abbrev qBZ4:=(false=true->false=true)
theorem Zw2 (n:Nat) (pf:PE) (l:List Tok) (e:Int) (out:PR Ex):Zj E (Ftm n pf) (vc E (Ftm n pf) 400) 99 [.ptr 1 0] (two [.psl Th.toks l false,.int false .i64 e]) 2 (mK2 .nil n0 dEx (fun _=>rfl) l e out)=(
 List.length l+(1:Nat)<=n/\(∀(y:Ex) (x':PX),pf l e=Except.ok (y,x')->True/\(∀(y_1:Int) (x'_1:PX),pOp op1 (Prod.fst x') (Prod.fst (Prod.snd x'))=Except.ok (y_1,x'_1)->∃(R:CX->Prop),(∃(x:CX),R x/\true=true/\(qBZ2 y_1 x)/\((Prod.fst x'_1=CX.l x/\qBZ4)/\Prod.fst (Prod.snd x'_1)=CX.ed x/\True)/\(qBZ5=qBZ5/\True)/\(Ex.op y=Ex.op (CX.e x)/\Ex.n y=Ex.n (CX.e x)/\Ex.d0 y=Ex.d0 (CX.e x)/\Ex.d1 y=Ex.d1 (CX.e x)/\Ex.d2 y=Ex.d2 (CX.e x)/\Ex.d3 y=Ex.d3 (CX.e x)/\(Ex.l y=Ex.l (CX.e x)/\qBZ4)/\True)/\qBZ1/\True)/\∀(x:CX),R x->((CX.op x !=qBZ3)=true->List.length (CX.l x)+(1:Nat)<=n/\(∀(y:Ex) (x':PX),pf (CX.l x) (CX.ed x)=Except.ok (y,x')->True/\(∀(y_2:Int) (x'_2:PX),pOp op1 (Prod.fst x') (Prod.fst (Prod.snd x'))=Except.ok (y_2,x'_2)->∃(x_1:CX),R x_1/\x_1.5+(1:Nat)<=x.5/\true=true/\(qBZ2 y_2 x_1)/\((Prod.fst x'_2=CX.l x_1/\qBZ4)/\Prod.fst (Prod.snd x'_2)=CX.ed x_1/\True)/\(qBZ5=qBZ5/\True)/\(CX.op x=Ex.op (CX.e x_1)/\qBZ3=Ex.n (CX.e x_1)/\qBZ3=Ex.d0 (CX.e x_1)/\qBZ3=Ex.d1 (CX.e x_1)/\qBZ3=Ex.d2 (CX.e x_1)/\qBZ3=Ex.d3 (CX.e x_1)/\([Ex.mk (Ex.op (CX.e x)) (Ex.n (CX.e x)) (Ex.d0 (CX.e x)) (Ex.d1 (CX.e x)) (Ex.d2 (CX.e x)) (Ex.d3 (CX.e x)) (Ex.l (CX.e x)),Ex.mk (Ex.op y) (Ex.n y) (Ex.d0 y) (Ex.d1 y) (Ex.d2 y) (Ex.d3 y) (Ex.l y)]=Ex.l (CX.e x_1)/\qBZ4)/\True)/\qBZ1/\True)/\∀(e:Int×Int),pOp op1 (Prod.fst x') (Prod.fst (Prod.snd x'))=Except.error e->out=Except.error e)/\∀(e:Int×Int),pf (CX.l x) (CX.ed x)=Except.error e->out=Except.error e)/\((CX.op x !=qBZ3)=false->out=Except.ok (Ex.mk (Ex.op (CX.e x)) (Ex.n (CX.e x)) (Ex.d0 (CX.e x)) (Ex.d1 (CX.e x)) (Ex.d2 (CX.e x)) (Ex.d3 (CX.e x)) (Ex.l (CX.e x)),CX.l x,CX.ed x,())))/\∀(e:Int×Int),pOp op1 (Prod.fst x') (Prod.fst (Prod.snd x'))=Except.error e->out=Except.error e)/\∀(e_1:Int×Int),pf l e=Except.error e_1->out=Except.error e_1):=by kernel_rfl
abbrev qBZ8:=(0:Int)
abbrev qBZa:=(0:Nat)
abbrev qBZ6:=(qBZ8=qBZ8/\qBZ8=qBZ8/\qBZ8=qBZ8/\qBZ8=qBZ8/\qBZ8=qBZ8/\qBZ8=qBZ8/\Value.slice none qBZa qBZa=Value.slice none qBZa qBZa/\True)
abbrev qBZ7 (a0:Int) (b0:CX):=((Fn.func (99:Nat)=Fn.func (99:Nat)/\True/\qBZa=qBZa/\True)/\(Fn.func (103:Nat)=Fn.func (103:Nat)/\True/\qBZa=qBZa/\True)/\qBZa=qBZa/\qBZa=qBZa/\a0=CX.op b0/\True)
abbrev qBZ9:=(false=true->false=true)
theorem Zw3 (n:Nat) (pf:PE) (l:List Tok) (e:Int) (out:PR Ex):Zj E (Fxp n pf) (vc E (Fxp n pf) 400) 69 [.ptr 0 0] (one [.psl Th.toks l false,.int false .i64 e]) 1 (mK .nil n0 dEx (fun _=>rfl) l e out)=(
 List.length l+(1:Nat)<=n/\(∀(y:Ex) (x':PX),pf l e=Except.ok (y,x')->True/\(∀(y_1:Int) (x'_1:PX),pOp op2 (Prod.fst x') (Prod.fst (Prod.snd x'))=Except.ok (y_1,x'_1)->∃(R:CX->Prop),(∃(x:CX),R x/\true=true/\(qBZ7 y_1 x)/\((Prod.fst x'_1=CX.l x/\qBZ9)/\Prod.fst (Prod.snd x'_1)=CX.ed x/\True)/\(qBZa=qBZa/\True)/\(Ex.op y=Ex.op (CX.e x)/\Ex.n y=Ex.n (CX.e x)/\Ex.d0 y=Ex.d0 (CX.e x)/\Ex.d1 y=Ex.d1 (CX.e x)/\Ex.d2 y=Ex.d2 (CX.e x)/\Ex.d3 y=Ex.d3 (CX.e x)/\(Ex.l y=Ex.l (CX.e x)/\qBZ9)/\True)/\qBZ6/\True)/\∀(x:CX),R x->((CX.op x !=qBZ8)=true->List.length (CX.l x)+(1:Nat)<=n/\(∀(y:Ex) (x':PX),pf (CX.l x) (CX.ed x)=Except.ok (y,x')->True/\(∀(y_2:Int) (x'_2:PX),pOp op2 (Prod.fst x') (Prod.fst (Prod.snd x'))=Except.ok (y_2,x'_2)->∃(x_1:CX),R x_1/\x_1.5+(1:Nat)<=x.5/\true=true/\(qBZ7 y_2 x_1)/\((Prod.fst x'_2=CX.l x_1/\qBZ9)/\Prod.fst (Prod.snd x'_2)=CX.ed x_1/\True)/\(qBZa=qBZa/\True)/\(CX.op x=Ex.op (CX.e x_1)/\qBZ8=Ex.n (CX.e x_1)/\qBZ8=Ex.d0 (CX.e x_1)/\qBZ8=Ex.d1 (CX.e x_1)/\qBZ8=Ex.d2 (CX.e x_1)/\qBZ8=Ex.d3 (CX.e x_1)/\([Ex.mk (Ex.op (CX.e x)) (Ex.n (CX.e x)) (Ex.d0 (CX.e x)) (Ex.d1 (CX.e x)) (Ex.d2 (CX.e x)) (Ex.d3 (CX.e x)) (Ex.l (CX.e x)),Ex.mk (Ex.op y) (Ex.n y) (Ex.d0 y) (Ex.d1 y) (Ex.d2 y) (Ex.d3 y) (Ex.l y)]=Ex.l (CX.e x_1)/\qBZ9)/\True)/\qBZ6/\True)/\∀(e:Int×Int),pOp op2 (Prod.fst x') (Prod.fst (Prod.snd x'))=Except.error e->out=Except.error e)/\∀(e:Int×Int),pf (CX.l x) (CX.ed x)=Except.error e->out=Except.error e)/\((CX.op x !=qBZ8)=false->out=Except.ok (Ex.mk (Ex.op (CX.e x)) (Ex.n (CX.e x)) (Ex.d0 (CX.e x)) (Ex.d1 (CX.e x)) (Ex.d2 (CX.e x)) (Ex.d3 (CX.e x)) (Ex.l (CX.e x)),CX.l x,CX.ed x,())))/\∀(e:Int×Int),pOp op2 (Prod.fst x') (Prod.fst (Prod.snd x'))=Except.error e->out=Except.error e)/\∀(e_1:Int×Int),pf l e=Except.error e_1->out=Except.error e_1):=by kernel_rfl
theorem Z9n {n:Nat} {pf:PE} (hpf:∀l e,l.length<n->Wk (mI .nil n0 dEx (fun _=>rfl)) 101 (l,e,()) () (pf l e)):FnsOk E (Ftm n pf):=Ym E_ok (Zd (Zd F0_ok (Xa E_ok (Zc rfl) fun x _ h=>hpf x.1 x.2.1 h)) Z6r) _ _ _
theorem Z9o {n:Nat} {pf:PE} (hpf:∀l e,l.length<n->Zch (mI .nil n0 dEx (fun _=>rfl)) 99 (l,e,()) () (pf l e)):FnsOk E (Fxp n pf):=Ym E_ok (Zd (Zd F0_ok (Zi7 E_ok (Zc rfl) fun x _ h=>hpf x.1 x.2.1 h)) Z6s) _ _ _
theorem Z07 {n:Nat} {pf:PE} (hpf:∀l e,l.length<n->Wk (mI .nil n0 dEx (fun _=>rfl)) 101 (l,e,()) () (pf l e)) (H:Shr pf) (l:List Tok) (e:Int) (hl:l.length<n):
 Zch (mI .nil n0 dEx (fun _=>rfl)) 99 (l,e,()) () (pCh op1 pf l e):=by
 refine Zn1 (Z9n hpf) (n:=400) (a:=()) ?_
 rw [show (DcL.nil (E:=E)).enc ()= [] from rfl,Zw2];delta qBZ5 qBZ3 qBZ1 qBZ2 qBZ4
 refine ⟨by omega,fun y x' h=>⟨trivial,fun y1 x1 ho=> ?_,fun er ho=>by cases ho⟩,fun er h=>by simp [pCh,h]⟩
 unfold pOp at ho
 injection ho with ho
 injection ho with ho1 ho2
 subst ho1;subst ho2
 have hs:=H _ _ _ _ h
 have hs2:=Zn2 x'.1
 refine ⟨fun x=>Yu op1 pf x.k x.e x.op x.l x.ed=pCh op1 pf l e/\x.l.length<x.k/\x.l.length<n,⟨⟨y,(op1 x'.1).1,(op1 x'.1).2,x'.2.1,(op1 x'.1).2.length+1⟩,⟨by simp [pCh,h],(by show (op1 x'.1).2.length<(op1 x'.1).2.length+1;omega),(by show (op1 x'.1).2.length<n;omega)⟩,by simp⟩,?_⟩
 rintro ⟨x,op,l1,ed,k⟩ ⟨hR,hk,hn⟩
 have hk:l1.length<k:=hk
 have hn:l1.length<n:=hn
 cases k with
 |zero=>omega
 |succ k=>
  have hR:Yu op1 pf (k+1) x op l1 ed=pCh op1 pf l e:=hR
  rw [<-hR]
  refine ⟨fun h0=>⟨by omega,fun y2 x2 h2=>⟨trivial,fun y3 x3 h3=> ?_,fun er h3=>by cases h3⟩,fun er h2=> ?_⟩,fun h0=> ?_⟩
  · unfold pOp at h3
    injection h3 with h3
    injection h3 with h31 h32
    subst h31;subst h32
    have h0:op≠0:=by simpa using h0
    have h2:pf l1 ed= .ok (y2,x2):=h2
    have hq:=H _ _ _ _ h2
    have hq2:=Zn2 x2.1
    refine ⟨⟨.mk op 0 0 0 0 0 [x,y2],(op1 x2.1).1,(op1 x2.1).2,x2.2.1,k⟩,⟨?_,(by show (op1 x2.1).2.length<k;omega),(by show (op1 x2.1).2.length<n;omega)⟩,Nat.le_refl _,?_⟩
    · show Yu op1 pf k _ _ _ _=_
      simp [Yu,h0,h2]
    · simp only [Ex.eta]
      repeat' (first|exact rfl|exact trivial|exact fun h=>h|apply And.intro)
  · have h0:op≠0:=by simpa using h0
    have h2:pf l1 ed= .error er:=h2
    simp [Yu,h0,h2]
  · have h0:op=0:=by simpa using h0
    simp [Yu,h0,Ex.eta]
theorem Zw4 {n:Nat} {pf:PE} (hpf:∀l e,l.length<n->Zch (mI .nil n0 dEx (fun _=>rfl)) 99 (l,e,()) () (pf l e)) (H:Shr pf) (l:List Tok) (e:Int) (hl:l.length<n):
 Wk (mI .nil n0 dEx (fun _=>rfl)) 69 (l,e,()) () (pCh op2 pf l e):=by
 refine Vz (Z9o hpf) (n:=400) (a:=()) ?_
 rw [show (DcL.nil (E:=E)).enc ()= [] from rfl,Zw3];delta qBZ8 qBZa qBZ6 qBZ7 qBZ9
 refine ⟨by omega,fun y x' h=>⟨trivial,fun y1 x1 ho=> ?_,fun er ho=>by cases ho⟩,fun er h=>by simp [pCh,h]⟩
 unfold pOp at ho
 injection ho with ho
 injection ho with ho1 ho2
 subst ho1;subst ho2
 have hs:=H _ _ _ _ h
 have hs2:=Zn3 x'.1
 refine ⟨fun x=>Yu op2 pf x.k x.e x.op x.l x.ed=pCh op2 pf l e/\x.l.length<x.k/\x.l.length<n,⟨⟨y,(op2 x'.1).1,(op2 x'.1).2,x'.2.1,(op2 x'.1).2.length+1⟩,⟨by simp [pCh,h],(by show (op2 x'.1).2.length<(op2 x'.1).2.length+1;omega),(by show (op2 x'.1).2.length<n;omega)⟩,by simp⟩,?_⟩
 rintro ⟨x,op,l1,ed,k⟩ ⟨hR,hk,hn⟩
 have hk:l1.length<k:=hk
 have hn:l1.length<n:=hn
 cases k with
 |zero=>omega
 |succ k=>
  have hR:Yu op2 pf (k+1) x op l1 ed=pCh op2 pf l e:=hR
  rw [<-hR]
  refine ⟨fun h0=>⟨by omega,fun y2 x2 h2=>⟨trivial,fun y3 x3 h3=> ?_,fun er h3=>by cases h3⟩,fun er h2=> ?_⟩,fun h0=> ?_⟩
  · unfold pOp at h3
    injection h3 with h3
    injection h3 with h31 h32
    subst h31;subst h32
    have h0:op≠0:=by simpa using h0
    have h2:pf l1 ed= .ok (y2,x2):=h2
    have hq:=H _ _ _ _ h2
    have hq2:=Zn3 x2.1
    refine ⟨⟨.mk op 0 0 0 0 0 [x,y2],(op2 x2.1).1,(op2 x2.1).2,x2.2.1,k⟩,⟨?_,(by show (op2 x2.1).2.length<k;omega),(by show (op2 x2.1).2.length<n;omega)⟩,Nat.le_refl _,?_⟩
    · show Yu op2 pf k _ _ _ _=_
      simp [Yu,h0,h2]
    · simp only [Ex.eta]
      repeat' (first|exact rfl|exact trivial|exact fun h=>h|apply And.intro)
  · have h0:op≠0:=by simpa using h0
    have h2:pf l1 ed= .error er:=h2
    simp [Yu,h0,h2]
  · have h0:op=0:=by simpa using h0
    simp [Yu,h0,Ex.eta]
end
section
open Go
def Bnd (pe:PE):Prop:=∀l e x y,pe l e= .ok (x,y)->x.sz+2*y.1.length<=2*l.length
theorem Bnd.shr {pe:PE} (h:Bnd pe):Shr pe:=fun l e x y hq=>by
 have:=h l e x y hq
 have:=Ex.sz_pos x
 omega
theorem Zg2:∀(a b:List Ex),Ex.szL (a++b)=Ex.szL a+Ex.szL b
 | [],b=>by simp [Ex.szL]
 |x::a,b=>by simp [Ex.szL,Zg2 a b];omega
theorem Zqe {pe:PE} (h:Bnd pe):∀{ss:List (List Nat)} {acc:List Ex} {l:List Tok} {e:Int} {xs:List Ex} {y:PX},pOpL pe ss acc l e= .ok (xs,y)->Ex.szL xs+2*y.1.length<=Ex.szL acc+2*l.length
 | [],acc,l,e,xs,y,hq=>by
  unfold pOpL at hq
  injection hq with hq
  injection hq with h1 h2
  subst h1;subst h2
  exact Nat.le_refl _
 |s::r,acc,l,e,xs,y,hq=>by
  unfold pOpL at hq
  split at hq
  · cases hq
  · rename_i x z hx
    split at hq
    · rename_i hw
      have h1:=h _ _ _ _ hx
      have h2:=Zm hw
      have h3:=Zqe h hq
      rw [Zg2] at h3
      have h4:Ex.szL [x]=x.sz:=by simp [Ex.szL]
      omega
    · cases hq
theorem Zqf {pe:PE} (h:Bnd pe) {op:Int} {ss:List (List Nat)} {l:List Tok} {e:Int} {x:Ex} {y:PX} (hq:pOps pe op ss l e= .ok (x,y)):x.sz+2*y.1.length<=2*l.length:=by
 unfold pOps at hq
 split at hq
 · rename_i hw
   split at hq
   · cases hq
   · rename_i xs z hx
     injection hq with hq
     injection hq with h1 h2
     subst h1;subst h2
     have h3:=Zqe h hx
     have h2:=Zm hw
     rw [Ex.sz_eq]
     show Ex.szL xs+1+_<=_
     have:Ex.szL ([]:List Ex)=0:=rfl
     omega
 · cases hq
theorem Zw5 {l:List Tok} {e:Int} {d:List Int} {y:PX} (hq:Vh l e= .ok (d,y)):y.1.length<=l.length:=by
 unfold Vh at hq
 split at hq
 · cases hq
 · rename_i k x hc
   have hx:x.1.length<=l.length:=by
    rcases Y5 hc with ⟨h1,_,rfl⟩|⟨_,_,rfl⟩
    · have:=Za8 h1;show l.tail.length<=_;omega
    · exact Nat.le_refl _
   split at hq
   · rename_i hw
     have hw:=Zm hw
     split at hq
     · cases hq
     · rename_i j x1 hm
       obtain ⟨h1,_,rfl⟩:=Zab hm
       have:=Za8 h1
       injection hq with hq
       injection hq with _ h2
       subst h2
       show x.1.tail.tail.length<=_
       omega
   · injection hq with hq
     injection hq with _ h2
     subst h2
     exact hx
theorem Zk2 {pe:PE} (h:Bnd pe):Bnd (Za7 pe):=by
 intro l e x y hq
 unfold Za7 at hq
 split at hq
 · rename_i hw
   have hw:=Zm hw
   split at hq
   · cases hq
   · rename_i x1 y1 hx
     have h1:=h _ _ _ _ hx
     split at hq
     · rename_i hw2
       have hw2:=Zm hw2
       injection hq with hq
       injection hq with h2 h3
       subst h2;subst h3
       show _+2*y1.1.tail.length<=_
       omega
     · cases hq
 · split at hq
   · rename_i hw
     have hw:=Zm hw
     have:=Zqf h hq
     omega
   · split at hq
     · cases hq
     · rename_i k y1 hc
       split at hq
       · have h1:=Zqf h hq
         rcases Y5 hc with ⟨h2,_,rfl⟩|⟨_,_,rfl⟩
         · have:=Za8 h2
           have h1:x.sz+2*y.1.length<=2*l.tail.length:=h1
           omega
         · exact h1
       · split at hq
         · cases hq
         · rename_i a z hm
           obtain ⟨h1,_,rfl⟩:=Zab hm
           have hp:=Za8 h1
           injection hq with hq
           injection hq with h2 h3
           subst h2;subst h3
           have hy:y1.1.length<=l.length:=by
            rcases Y5 hc with ⟨h2,_,rfl⟩|⟨_,_,rfl⟩
            · have:=Za8 h2;show l.tail.length<=_;omega
            · exact Nat.le_refl _
           show 1+2*y1.1.tail.length<=_
           omega
theorem Vq {pe:PE} (h:Bnd pe):Bnd (pFac pe):=by
 intro l e x y hq
 unfold pFac at hq
 split at hq
 · exact Zk2 h _ _ _ _ hq
 · split at hq
   · split at hq
     · cases hq
     · rename_i t r _ _ d z hu
       have h1:=Zw5 hu
       injection hq with hq
       injection hq with h2 h3
       subst h2;subst h3
       show 1+2*z.1.length<=2*(r.length+1)
       omega
   · exact Zk2 h _ _ _ _ hq
def Cns (o:List Tok->Int×List Tok):Prop:=∀l,2*(o l).2.length+(if (o l).1=0 then 0 else 2)<=2*l.length
theorem Zff:Cns op1:=by
 intro l
 unfold op1;split
 · have:=Zm (by assumption);show 2*l.tail.length+2<=_;omega
 · simp
theorem Z6t:Cns op2:=by
 intro l
 unfold op2;split
 · have:=Zm (by assumption);show 2*l.tail.length+2<=_;omega
 · split
   · have:=Zm (by assumption);show 2*l.tail.length+2<=_;omega
   · simp
theorem Zk3 {o:List Tok->Int×List Tok} {pf:PE} (ho:Cns o) (h:Bnd pf):∀{k:Nat} {x:Ex} {op:Int} {l:List Tok} {e:Int} {z:Ex} {y:PX},Yu o pf k x op l e= .ok (z,y)->z.sz+2*y.1.length<=x.sz+2*l.length+(if op=0 then 0 else 2)
 |0,x,op,l,e,z,y,hq=>by
  unfold Yu at hq
  injection hq with hq
  injection hq with h2 h3
  subst h2;subst h3
  exact Nat.le_add_right _ _
 |k+1,x,op,l,e,z,y,hq=>by
  unfold Yu at hq
  split at hq
  · injection hq with hq
    injection hq with h2 h3
    subst h2;subst h3
    exact Nat.le_add_right _ _
  · rename_i hop
    split at hq
    · cases hq
    · rename_i y1 z1 hx
      have h1:=h _ _ _ _ hx
      have h2:=Zk3 ho h hq
      have h3:=ho z1.1
      have h4:(Ex.mk op 0 0 0 0 0 [x,y1]).sz=x.sz+y1.sz+1:=by rw [Ex.sz_eq];simp [Ex.l,Ex.szL]
      rw [h4] at h2
      rw [if_neg hop]
      omega
theorem Zc3 {o:List Tok->Int×List Tok} {pf:PE} (ho:Cns o) (h:Bnd pf):Bnd (pCh o pf):=by
 intro l e x y hq
 unfold pCh at hq
 split at hq
 · cases hq
 · rename_i y1 z1 hx
   have h1:=h _ _ _ _ hx
   have h2:=Zk3 ho h hq
   have h3:=ho z1.1
   omega
def pE:Nat->PE
 |0=>fun l e=> .error (hdT e l,160)
 |n+1=>pCh op2 (pCh op1 (pFac (pE n)))
theorem Zaq:∀n,Bnd (pE n)
 |0=>fun l e x y hq=>by cases hq
 |n+1=>Zc3 Z6t (Zc3 Zff (Vq (Zaq n)))
theorem Zqg:∀(n:Nat) (l:List Tok) (e:Int),l.length<n->Wk (mI .nil n0 dEx (fun _=>rfl)) 69 (l,e,()) () (pE n l e)
 |0,l,e,h=>by omega
 |n+1,l,e,h=>Zw4 (n:=n+1) (fun l e h=>Z07 (n:=n+1) (fun l e h=>Zsm (Zqg n) (Zaq n).shr l e h) (Vq (Zaq n)).shr l e h) (Zc3 Zff (Vq (Zaq n))).shr l e h
def pX (l:List Tok) (e:Int):PR Ex:=pE (l.length+1) l e
noncomputable def Sx:Sum thy:=sumM (mI .nil n0 dEx (fun _=>rfl)) (fun _ _=>True) fun x _=>pX x.1 x.2.1
theorem Ya8:SumOk E 69 Sx:=Xa E_ok (Zc rfl) fun x _ _=>Zqg _ _ _ (Nat.lt_succ_self _)
theorem Zqh:Bnd pX:=fun l e x y hq=>Zaq _ l e x y hq
end
section
open Go
end
end Go.Proofs.YtddgkebdlgglaaaGreatDoor
