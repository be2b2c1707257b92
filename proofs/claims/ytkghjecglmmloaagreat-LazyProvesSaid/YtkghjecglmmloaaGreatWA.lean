/- Package watch: falls. -/
import Derived.Test.YtkghjecglmmloaaGreatT17f
namespace Xe
open Go Tp Go.Proofs
set_option maxRecDepth 16000
set_option maxHeartbeats 2000000
section
variable {h:Heap} {bb:Nat} {p:BP} {s:WS}
@[go_sem] theorem slice_from2 {m len cap b o:Nat} {kd:IntKind} {i:Int} (h0:0≤i) (h1:i≤len) (h2:len≤cap):sliceV (some (m,none)) (.slice (some ⟨b,o,none⟩) len cap) (some (.int kd i)) none =
   some (.slice (some ⟨b,if cap=i.toNat then o else o+i.toNat*m,none⟩) (len-i.toNat) (cap-i.toNat)):=by
  unfold sliceV boundV
  simp only [Option.bind_some,if_pos (And.intro h0 h1),Option.map_some]
  by_cases e:cap=i.toNat
  · simp [e]
  · simp [e,add_n]
theorem RowAt.drop {bk off cap i:Nat} {vs:List Value} (R:RowAt h (some ⟨bk,off,none⟩) vs) (hc:vs.length≤cap):RowAt h (some ⟨bk,if cap=i then off else off+i*1,none⟩) (vs.drop i):=by
 rcases R with rfl | ⟨bk',off',e,hcell⟩
 · exact .inl (by simp)
 · cases e
   by_cases hci:cap=i
   · exact .inl (List.drop_eq_nil_of_le (by omega))
   · rw [if_neg hci]
     refine .inr ⟨bk,off+i*1,rfl,fun j v hv=>?_⟩
     rw [List.getElem?_drop] at hv
     have:=hcell _ _ hv
     rwa [show off+i*1+j=off+(i+j) by omega]
structure Fal (h1 h':Heap) (bb:Nat) (p p':BP) (s s':WS) (lit:Int) (A0:Option Addr) (L:List Nat) (i:Nat):Prop where
 M:BaseM h' bb p' s'
 F:FInv s' lit (L.drop i)
 st:Stp p p' h1 h'
 adv:Adv s s'
 hd:s'.head=s.head
 eb:p'.eb=p.eb
 R:RowAt h' A0 (ids L)
 cur:∀ A n c,(p'.f lit).getD (.slice none 0 0)=.slice A n c→∀ y,blk A y→h1.size≤y
theorem falls_m (M:BaseM h bb p s) (I:WInv s) (ht:s.todo=[]) {lit:Int} (hh:(lits s.l)[s.head]?=some (-lit)) (hlr:1≤lit.natAbs∧lit.natAbs≤16777216) :
   CallsH Tryz.prog 110 [.pointer (some ⟨bb,0,none⟩),.int .i64 lit] h fun r h' =>
     ∃ p' s',BaseM h' bb p' s'∧Stp p p' h h'∧s'.todo=[]∧s'.head=s.head∧Adv s s' ∧
       ((∃ id e,r=.tuple #[.int .i64 (id:Nat),.bool false]∧s'.cs[id]?=some e∧e.gone=false∧FailAt s'.l e.lits∧WInv s')∨(r=.tuple #[.int .i64 (-1),.bool true]∧WInv { s' with head:=s.head+1 })):=by
 have hsm:=M.sm.1
 have hvv:=I.hv
 have s2:=M.B.at' 2 _ rfl
 obtain ⟨A0,cap0,hcur,SA,hcA⟩:=(M.W lit).cur
 have lk:=M.look lit
 rw [hcur] at lk
 have hwl:=I.wlen lit
 refine calls_of 156 [.tmp 4,.tmp 5] Go.Proofs.Tryz.func110 rfl rfl rfl ?_
 simp -implicitDefEqProofs (disch:=omega) [go_sem,s2,lk]
 refine M.M.del mapT_w fun h1 M1 f1=>?_
 simp -implicitDefEqProofs (disch:=omega) [go_sem]
 have MB1:=M.unwat (f':=fun y=>if y=lit then none else p.f y) (W':=updW s.W lit []) M1 f1 (fun x=>by
   by_cases e:x=lit
   · subst e; exact .inr ⟨if_pos rfl,updW_same _ _ _⟩
   · exact .inl ⟨if_neg e,updW_other _ _ e⟩)
 have st1:Stp p { p with f:=fun y=>if y=lit then none else p.f y } h h1:=stp_map M f1
 have SA1:=SA.fr f1 (fun y hy e=>by subst e; have:=hcA _ hy; rw [M.cM] at this; cases this)
 have hb0:∀ y,blk A0 y→y<h1.size:=fun y hy=>SA1.blk_lt hy
 have F0:=I.begin ht hh
 obtain ⟨L,hL⟩:∃ L,L=s.W lit:=⟨_,rfl⟩
 rw [← hL] at hwl SA1 F0
 obtain ⟨p1,hp1⟩:∃ p1:BP,p1={ p with f:=fun y=>if y=lit then none else p.f y }:=⟨_,rfl⟩
 rw [← hp1] at MB1 st1
 have hcA1:∀ y,blk A0 y→p1.c y=some (.wat lit):=fun y hy=>by rw [hp1]; exact hcA y hy
 have hcap0:=SA1.len
 rw [ids_len] at hcap0
 rw [← hL]
 refine loopK (fun ρ h'=>ρ 0=.pointer (some ⟨bb,0,none⟩)∧ρ 1=.int .i64 lit∧ρ 6=.slice A0 L.length cap0∧ρ 23=.slice A0 L.length cap0∧ρ 24=.int .i64 L.length ∧
     ∃ (i:Nat) (p':BP) (s':WS),ρ 25=.int .i64 i∧i≤L.length∧Fal h1 h' bb p1 p' { s with W:=updW s.W lit [] } s' lit A0 L i) (fun ρ _=>L.length-(intOf (ρ 25)).toNat) (by kernel_rfl) ?_ ?_
 · refine ⟨rfl,rfl,rfl,rfl,rfl,0,p1,_,rfl,by omega,⟨MB1,F0,Stp.refl,Adv.refl _,rfl,rfl,SA1.row,fun A n c hA=>?_⟩⟩
   rw [hp1] at hA
   simp only [if_true,Option.getD_none] at hA
   cases hA
   exact fun y ⟨_,h,_⟩=>(nomatch h)
 · clear F0 MB1 SA1 M1 s2 lk
   rintro ρ h2 ⟨r0,r1,r6,r23,r24,i,p',s',r25,hi,FL⟩
   have hgood:=FL.F.inv.good
   have hadv:Adv s s':=⟨FL.adv.vars,FL.adv.level,FL.adv.cs,FL.adv.us⟩
   have hvs':s'.vars=s.vars:=FL.adv.vars
   have hfal:trI s'.l lit=-1:=by
     rw [tr_m1]
     have hm:=List.mem_of_getElem? FL.F.hd
     exact ⟨fun h=>good_cons hgood h hm,hm⟩
   by_cases him:i=L.length
   · subst him
     have Fd:=FL.F
     rw [List.drop_length] at Fd
     simp -implicitDefEqProofs (disch:=omega) [go_sem,r0,r1,r6,r23,r24,r25]
     exact ⟨p',s',FL.M,st1.trans FL.st,Fd.td,FL.hd,hadv,by have:=Fd.done; rw [FL.hd] at this; exact this⟩
   · obtain ⟨bk0,off0,rfl,hc0⟩:=FL.R.get (by rw [ids_len]; omega)
     obtain ⟨id,hid⟩:∃ id,L[i]?=some id:=⟨_,List.getElem?_eq_getElem (by omega)⟩
     have c0:=hc0 i _ (ids_at hid)
     have hdrop:L.drop i=id::L.drop (i+1):=by
       rw [List.drop_eq_getElem_cons (by omega)]
       rw [List.getElem?_eq_getElem (by omega),Option.some.injEq] at hid
       rw [hid]
     have F:=FL.F
     rw [hdrop] at F
     have hidl:id<s'.cs.length:=(F.inv.wL lit id (F.mem.2 (.inr ⟨rfl,List.mem_cons_self ..⟩))).1
     obtain ⟨e,he⟩:∃ e,s'.cs[id]?=some e:=⟨_,List.getElem?_eq_getElem hidl⟩
     have hsm':=FL.M.sm.1
     have M2:=FL.M
     have heb:=FL.eb
     simp -implicitDefEqProofs (disch:=omega) [go_sem,r0,r1,r6,r23,r24,r25,c0]
     cases hg:e.gone with
     | true =>
       refine useC (there_none M2 (id:=(id:Int)) (by omega) (by omega) (fun _ e' he'=>by rw [Int.toNat_natCast,he] at he'; cases he'; exact hg)) ?_
       rintro _ h3 ⟨rfl,rfl⟩
       simp -implicitDefEqProofs (disch:=omega) [go_sem,r0,r1,r6,r23,r24,r25]
       exact ⟨⟨i+1,by omega,by omega,p',s',⟨FL.M,F.gone (fun e' he'=>by rw [he] at he'; cases he'; exact hg),FL.st,FL.adv,FL.hd,FL.eb,FL.R,FL.cur⟩⟩,by omega⟩
     | false =>
       refine useC (there_some M2 he hg) ?_
       rintro _ h3 ⟨rfl,rfl⟩
       have hclr:=F.inv.cl e (List.mem_of_getElem? he)
       obtain ⟨y,z,hne,hy,hz,hyz,hlit,hyW,hzW⟩:=F.pair he hg
       obtain ⟨EA,Ecap,EB,ER,Ec⟩:=(M2.E id e he).ex
       have hcb:=(M2.E id e he).cb
       have hla:=(M2.E id e he).la
       have hlen:=(M2.E id e he).len
       have e0:=EB.at' 0 _ rfl
       have e1:=EB.at' 1 _ rfl
       have hyl:=(List.getElem?_eq_some_iff.1 hy).1
       have hzl:=(List.getElem?_eq_some_iff.1 hz).1
       obtain ⟨ebk,eoff,rfl,ehc⟩:=ER.get (by rw [ints_len]; omega)
       have cy:=ehc _ _ (ints_at hy)
       have cz:=ehc _ _ (ints_at hz)
       have ccon:=Ec ebk ⟨_,rfl,rfl⟩
       simp -implicitDefEqProofs (disch:=omega) [go_sem,r0,r1,r6,r23,r24,r25]
       refine drawK [(0,0),(1,0),(2,0),(3,1),(4,0),(5,0),(6,0),(7,1),(8,0),(9,0),(10,0),(11,1),(12,0)] ?_
       simp -implicitDefEqProofs (disch:=omega) [go_sem,r0,r1,r6,r23,r24,r25,e0,e1,cy]
       have hoth:∃ (o:Int) (io:Nat),e.lits[io]?=some o∧o≠lit∧id∈s'.W o∧(o=y∨o=z)∧((y=lit∧o=z∧io=e.a2)∨(y≠lit∧o=y∧io=e.a1))∧(∀ w,(e.lits[e.a1]?=some w∨e.lits[e.a2]?=some w)→w=lit∨w=o):=by
         have hw:∀ w,(e.lits[e.a1]?=some w∨e.lits[e.a2]?=some w)→w=y∨w=z:=fun w hw=>by
           rw [hy,hz] at hw
           exact hw.imp (fun h=>(Option.some.inj h).symm) (fun h=>(Option.some.inj h).symm)
         by_cases e5:y=lit
         · have hzl2:z≠lit:=fun h=>hyz (e5.trans h.symm)
           exact ⟨z,e.a2,hz,hzl2,hzW hzl2,.inr rfl,.inl ⟨e5,rfl,rfl⟩,fun w h=>(hw w h).imp_left fun h=>h.trans e5⟩
         · have hzl2:z=lit:=(hlit.resolve_left (fun h=>e5 h.symm)).symm
           exact ⟨y,e.a1,hy,e5,hyW e5,.inl rfl,.inr ⟨e5,rfl,rfl⟩,fun w h=>(hw w h).symm.imp_left fun h=>h.trans hzl2⟩
       obtain ⟨o,io,ho,hol,hoW,hoyz,hocase,hpairw⟩:=hoth
       refine condCut (fun ρ h'=>h'=h3∧ρ 0=.pointer (some ⟨bb,0,none⟩)∧ρ 1=.int .i64 lit∧ρ 6=.slice (some ⟨bk0,off0,none⟩) L.length cap0∧ρ 7=.int .i64 i∧ρ 8=.int .i64 id∧ρ 9=.pointer (some ⟨p'.eb id,0,none⟩)∧ρ 10=.int .i64 o ∧
         ρ 23=.slice (some ⟨bk0,off0,none⟩) L.length cap0∧ρ 24=.int .i64 L.length∧ρ 25=.int .i64 i) ?_ ?_
       · rcases hocase with ⟨h5,rfl,rfl⟩ | ⟨h5,rfl,rfl⟩
         · rw [decide_eq_true h5]
           simp -implicitDefEqProofs (disch:=omega) [go_sem,r0,r1,r6,r23,r24,r25]
           refine drawK [(0,0),(1,0),(2,0),(3,1),(4,0),(5,0),(6,0),(7,1),(8,0),(9,0),(10,0),(11,1),(12,0)] ?_
           simp -implicitDefEqProofs (disch:=omega) [go_sem,r0,r1,r6,r23,r24,r25,e0,e1,cz]
         · rw [decide_eq_false h5]
           simp -implicitDefEqProofs (disch:=omega) [go_sem,r0,r1,r6,r23,r24,r25]
       · have hr25o:(intOf (ρ 25)).toNat=i:=by rw [r25]; rfl
         clear r0 r1 r6 r23 r24 r25
         rintro ρ h3 ⟨rfl,r0,r1,r6,r7,r8,r9,r10,r23,r24,r25⟩
         have hor:=hclr.2 o (List.mem_of_getElem? ho)
         have hv':s'.vars≤16777216:=by rw [hvs']; exact hvv
         have hor1:1≤o.natAbs∧o.natAbs≤s'.vars:=hor
         have hr25:(intOf (ρ 25)).toNat=i:=by rw [r25]; rfl
         simp -implicitDefEqProofs (disch:=omega) [go_sem,r0,r1,r6,r7,r8,r9,r10,r23,r24,r25]
         refine useC (find_m M2 (by rw [hvs']; exact hvv) he hclr.2 o) ?_
         rintro _ h4 ⟨rfl,f4⟩
         have M4:=M2.fr0 f4
         have R4:=FL.R.fr0 f4
         have e04:=(f4.cell (o:=0) (hcell_lt e0) (fun h=>h)).trans e0
         have oin:=List.mem_of_getElem? ho
         have hc0':p'.c bk0=some (.wat lit):=FL.st.ext _ _ (hcA1 bk0 ⟨_,rfl,rfl⟩)
         have hbk0:=hb0 bk0 ⟨_,rfl,rfl⟩
         have f24:Fr (fun _=>False) h3 h4:=f4
         have z4:=f4.size
         have z12:=FL.st.fr.size
         rcases idxF_cases (freeP s'.l o) e.lits with ⟨hj,hno⟩ | ⟨j,zz,hj,hzz,hpz⟩
         · rw [hj]
           have hno':∀ x∈e.lits,x≠o→trI s'.l x=-1:=fun x hx hne=>by
             have h1:=hno x hx
             unfold freeP at h1
             rw [Bool.and_eq_false_iff,decide_eq_false_iff_not,decide_eq_false_iff_not] at h1
             rcases trI_cases s'.l x with h | h | h <;> omega
           obtain ⟨A,cap,hcu,SA4,hcA4⟩:=(M4.W lit).cur
           have s24:=M4.B.at' 2 _ rfl
           have lk4:=M4.look lit
           rw [hcu] at lk4
           have hwl4:(s'.W lit).length+(1+(L.drop (i+1)).length)≤s'.cs.length:=by
             have:=F.inv.wlen lit
             have h2:(updW s'.W lit (s'.W lit++id::L.drop (i+1)) lit).length≤s'.cs.length:=this
             rw [updW_same,List.length_append,List.length_cons] at h2
             omega
           simp -implicitDefEqProofs (disch:=omega) [go_sem,r0,r1,r6,r7,r8,r9,r10,r23,r24,r25]
           refine drawC [(0,0),(1,0),(2,0),(3,2),(4,0),(5,0),(6,0),(7,0),(8,2),(9,0),(10,2),(11,0),(12,3),(13,3),(14,4)] (fun h'=>hcell h' ⟨bb,2,none⟩=some (.map (some p'.mb))∧lookV Tryz.prog 102 (.map (some p'.mb)) (.int .i64 lit) false h'=some (.slice A (s'.W lit).length cap)) ⟨s24,lk4⟩ ?_
           simp -implicitDefEqProofs (disch:=omega) [go_sem,r0,r1,r8]
           refine float2 (.map (some p'.mb)) (fun h' hC=>by obtain ⟨q1,q4⟩:=hC; simp -implicitDefEqProofs (disch:=omega) [go_sem,r0,r1,q1]) ?_
           simp -implicitDefEqProofs (disch:=omega) [go_sem,r0,r1,r8]
           refine float2 (.map (some p'.mb)) (fun h' hC=>by obtain ⟨q1,q4⟩:=hC; simp -implicitDefEqProofs (disch:=omega) [go_sem,r0,r1,q1]) ?_
           simp -implicitDefEqProofs (disch:=omega) [go_sem,r0,r1,r8]
           refine float2 (.slice A (s'.W lit).length cap) (fun h' hC=>by obtain ⟨q1,q4⟩:=hC; simp -implicitDefEqProofs (disch:=omega) [go_sem,r0,r1,q4]) ?_
           simp -implicitDefEqProofs (disch:=omega) [go_sem,r0,r1,r8]
           refine build1 rfl rfl ?_
           have hC':∀ h',Fr (fun y=>p'.c y=some (.wat lit)) h4 h'→hcell h' ⟨bb,2,none⟩=some (.map (some p'.mb))∧lookV Tryz.prog 102 (.map (some p'.mb)) (.int .i64 lit) false h'=some (.slice A (s'.W lit).length cap):=fun h' f =>
             ⟨(f.cell (hcell_lt s24) (by rw [M4.cB]; exact fun h=>(nomatch h))).trans s24,by rw [← hcu]; exact (M4.M.fr f (by rw [M4.cM]; exact fun h=>(nomatch h))).look mapT_w zero_w lit⟩
           have f6:Fr (fun y=>p'.c y=some (.wat lit)) h4 (h4.push (.cells #[.int .i64 id] 3)):=(Fr.refl _ _).push
           refine ⟨hC' _ f6,?_⟩
           simp -implicitDefEqProofs (disch:=omega) [go_sem,r0,r1,r8]
           refine appendQ (vs:=ids (s'.W lit)) (ws:=[.int .i64 (id:Int)]) (SA4.fr ((Fr.refl (fun _=>False) h4).push) (fun _ _ h=>h)) (by rw [ids_len]) (SlAt.new (vs:=[.int .i64 (id:Int)])).row rfl (by simp [Value.oneCell']) (by omega) (by omega) ?_
           intro A7 cap7 h7 S7 f7 hA7
           have f67:Fr (fun y=>p'.c y=some (.wat lit)) h4 h7:=f6.trans (f7.mono fun y _ hy=>hcA4 y hy)
           have hAn:∀ y,blk A y→h1.size≤y:=FL.cur A _ _ hcu
           have R7:RowAt h7 (some ⟨bk0,off0,none⟩) (ids L):=(R4.fr0 ((Fr.refl (fun _=>False) h4).push)).fr f7 fun y hy hb=>by
             obtain ⟨a,ha,rfl⟩:=hy
             cases ha
             have:=hAn _ hb; simp at this; omega
           refine ⟨hC' _ f67,?_⟩
           simp -implicitDefEqProofs (disch:=omega) [go_sem,r0,r1,r8]
           have M7:=M4.M.fr f67 (by rw [M4.cM]; exact fun h=>(nomatch h))
           refine M7.up mapT_w fun h8 M8 f8=>?_
           have ei:ids (s'.W lit)++[.int .i64 (id:Int)]=ids (s'.W lit++[id]):=by rw [ids_append]; rfl
           rw [ei] at S7
           have hlen7:(s'.W lit++[id]).length=(s'.W lit).length+1:=by simp
           have R8:RowAt h8 (some ⟨bk0,off0,none⟩) (ids L):=R7.fr f8 fun y hy hb=>by
             obtain ⟨a,ha,rfl⟩:=hy
             cases ha
             have hb':bk0=p'.mb:=hb
             rw [hb',M4.cM] at hc0'; cases hc0'
           have hA7n:∀ y,blk A7 y→h1.size≤y:=fun y hy=>(hA7 y hy).elim (hAn y) fun h=>by rw [push_size] at h; omega
           obtain ⟨p8,MB8,st8,heb8,hf8,hmb8⟩:=M4.wat (x:=lit) (w:=s'.W lit++[id]) f67 S7 (fun y hy=>(hA7 y hy).elim (fun h=>.inl (hcA4 y h)) fun h=>.inr (by rw [push_size] at h; omega)) (by rw [hlen7]; exact M8) f8
           have st48:Stp p' p8 h3 h8:=(Stp.fr0 f4).trans st8
           simp -implicitDefEqProofs (disch:=omega) [go_sem,r0,r1,r6,r7,r8,r9,r10,r23,r24,r25]
           have s08:=MB8.B.at' 0 _ rfl
           simp -implicitDefEqProofs (disch:=omega) [go_sem,r0,r1,r6,r7,r8,r9,r10,r23,r24,r25,s08]
           refine useC (ttruth_ok MB8.T (x:=o) (by omega) (by omega)) ?_
           rintro _ h9 ⟨rfl,rfl⟩
           have hcur8:∀ A n c,(p8.f lit).getD (.slice none 0 0)=.slice A n c→∀ y,blk A y→h1.size≤y:=fun A n c hA y hy=>by
             rw [hf8] at hA
             simp only [if_true,Option.getD_some] at hA
             cases hA
             exact hA7n y hy
           have hhd:s'.head=s.head:=FL.hd
           rcases trI_cases s'.l o with t1 | t1 | t1
           · have Fk:=F.keep he ⟨o,oin,t1⟩
             have t1':trI { s' with W:=updW s'.W lit (s'.W lit++[id]) }.l o=1:=t1
             simp -implicitDefEqProofs (disch:=omega) [go_sem,r0,r1,r6,r7,r8,r9,r10,r23,r24,r25,t1]
             exact ⟨⟨i+1,by omega,by omega,p8,_,⟨MB8,Fk,FL.st.trans st48,FL.adv.trans ⟨rfl,rfl,rfl,.refl _⟩,FL.hd,heb8.trans FL.eb,R8,hcur8⟩⟩,by omega⟩
           · have R9:=R8.drop (cap:=cap0) (i:=i+1) (by rw [ids_len]; exact hcap0)
             have s28:=MB8.B.at' 2 _ rfl
             obtain ⟨A9,cap9,hcu9,SA9,hcA9⟩:=(MB8.W lit).cur
             have hW9:({ s' with W:=updW s'.W lit (s'.W lit++[id]) }:WS).W lit=s'.W lit++[id]:=updW_same _ _ _
             rw [hW9] at hcu9 SA9
             have lk9:=MB8.look lit
             rw [hcu9] at lk9
             have hfail:FailAt s'.l e.lits:=fun x hx=>by
              by_cases ex:x=o
              · rw [ex]; exact t1
              · exact hno' x hx ex
             have hdl:(L.drop (i+1)).length=L.length-(i+1):=List.length_drop ..
             simp -implicitDefEqProofs (disch:=omega) [go_sem,r0,r1,r6,r7,r8,r9,r10,r23,r24,r25,t1]
             refine drawC [(0,0),(1,0),(2,0),(3,2),(4,0),(5,0),(6,0),(7,0),(8,1),(9,0),(10,1),(11,0),(12,0),(13,0),(14,0),(15,3),(16,4)] (fun h'=>hcell h' ⟨bb,2,none⟩=some (.map (some p8.mb))) s28 ?_
             simp -implicitDefEqProofs (disch:=omega) [go_sem,r0,r1,r6,r7,r8]
             refine float2 (.map (some p8.mb)) (fun h' hC=>by simp -implicitDefEqProofs (disch:=omega) [go_sem,r0,r1,hC]) ?_
             simp -implicitDefEqProofs (disch:=omega) [go_sem,r0,r1,r6,r7,r8,s28,lk9]
             have e13:((i:Int)+1).toNat=i+1:=by omega
             simp only [Nat.mul_one] at R9
             have e14:ids (L.drop (i+1))=(ids L).drop (i+1):=by unfold ids; rw [List.map_drop]
             have R9':=R9
             rw [← e14] at R9'
             refine appendQ (vs:=ids (s'.W lit++[id])) (ws:=ids (L.drop (i+1))) SA9 (by rw [ids_len]; simp) R9' (by rw [ids_len,hdl]) ids_one (by omega) (by omega) ?_
             intro A11 cap11 h11 S11 f11 hA11
             have g11:Fr (fun y=>p8.c y=some (.wat lit)) h9 h11:=f11.mono fun y _ hy=>hcA9 y hy
             refine ⟨(g11.cell (hcell_lt s28) (by rw [MB8.cB]; exact fun h=>(nomatch h))).trans s28,?_⟩
             simp -implicitDefEqProofs (disch:=omega) [go_sem,r0,r1,r6,r7,r8]
             have M11:=MB8.M.fr g11 (by rw [MB8.cM]; exact fun h=>(nomatch h))
             refine M11.up mapT_w fun h12 M12 f12=>?_
             rw [← ids_append] at S11
             have hl12:((s'.W lit++[id])++L.drop (i+1)).length=(s'.W lit).length+1+(L.length-(i+1)):=by rw [List.length_append,List.length_append,hdl]; rfl
             obtain ⟨p12,MB12,st12,heb12,_⟩:=MB8.wat (x:=lit) (w:=(s'.W lit++[id])++L.drop (i+1)) g11 S11 (fun y hy=>(hA11 y hy).imp_left (hcA9 y)) (by rw [hl12]; simpa using M12) f12
             have If:=F.fail
             simp -implicitDefEqProofs (disch:=omega) [go_sem,r0,r1,r6,r7,r8,r9,r10,r23,r24,r25]
             exact ⟨p12,_,MB12,((st1.trans FL.st).trans st48).trans st12,F.td,FL.hd,hadv.trans ⟨rfl,rfl,rfl,.refl _⟩,by first | exact ⟨id,rfl,e,he,hg,hfail,If⟩ | exact ⟨id,e,rfl,he,hg,hfail,If⟩ | exact ⟨id,⟨rfl,e,he,hg,hfail⟩,If⟩⟩
           · have hu:UnitAt s'.l e.lits o:=⟨oin,t1,hno'⟩
             simp -implicitDefEqProofs (disch:=omega) [go_sem,r0,r1,r6,r7,r8,r9,r10,r23,r24,r25,t1,s08]
             refine useC (tpush_ok MB8.T (x:=o) (r:=(id:Int)) (by omega) (by omega)) ?_
             rintro _ h10 ⟨rfl,O5,T5,nx5⟩
             have hfn:find s'.l o.natAbs=none:=by
              cases h:find s'.l o.natAbs with
              | none=>rfl
              | some k =>
                obtain ⟨t,ht',h2,_⟩:=find_some h
                have:=tr_at hgood ht' (x:=o) h2.symm
                rw [t1] at this
                split at this <;> omega
             have hpe:pushE s'.vars s'.l o (id:Int)=0:=by
              unfold pushE varI
              rw [if_pos hor,if_neg (by omega),hfn]; rfl
             have T5':TrailOk h10 p8.tb O5 s'.vars (s'.l++[⟨o,id,s'.level⟩]) s'.level:=by
              rw [← show pushL s'.vars s'.l o (id:Int) s'.level=s'.l++[⟨o,id,s'.level⟩] from if_pos hpe]; exact T5
             obtain ⟨p10,M10,st10,heb10,hf10,hmb10⟩:=MB8.trail T5' nx5
             have Fk:=F.keepPush he hg hu (by omega)
             have R10:RowAt h10 (some ⟨bk0,off0,none⟩) (ids L):=R8.fr nx5.fr fun y hy hb=>by
              obtain ⟨a,ha,rfl⟩:=hy
              cases ha
              have h1:=st48.ext _ _ hc0'
              rw [MB8.cT _ hb] at h1; cases h1
             simp -implicitDefEqProofs (disch:=omega) [go_sem,r0,r1,r6,r7,r8,r9,r10,r23,r24,r25]
             exact ⟨⟨i+1,by omega,by omega,p10,_,⟨M10,Fk,(FL.st.trans st48).trans st10,FL.adv.trans ⟨rfl,rfl,rfl,.step (.refl _) (by have:=absC_at he; rw [hg] at this; exact this) hu⟩,FL.hd,(heb10.trans heb8).trans FL.eb,R10,by rw [hf10]; exact hcur8⟩⟩,by omega⟩
         · rw [hj]
           unfold freeP at hpz
           rw [Bool.and_eq_true,decide_eq_true_eq,decide_eq_true_eq] at hpz
           have hzzl:zz≠lit:=fun h=>by rw [h,hfal] at hpz; omega
           have hjl:=(List.getElem?_eq_some_iff.1 hzz).1
           have ER4:RowAt h4 (some ⟨ebk,eoff,none⟩) (ints e.lits):=(RowAt.fr0 (.inr ⟨ebk,eoff,rfl,ehc⟩) f4)
           simp -implicitDefEqProofs (disch:=omega) [go_sem,r0,r1,r6,r7,r8,r9,r10,r23,r24,r25,e04]
           refine useC (index_ok ER4 rfl (by omega) o) ?_
           rintro _ h5 ⟨rfl,rfl⟩
           rcases idxF_cases (fun y=>decide (o=y)) e.lits with ⟨_,hn⟩ | ⟨i',x',hi',hx',hpx⟩
           · have:=hn o oin; simp at this
           · rw [hi']
             have hox:o=x':=of_decide_eq_true hpx
             rw [← hox] at hx'
             have hil':=(List.getElem?_eq_some_iff.1 hx').1
             obtain ⟨EA4,Ecap4,EB4,_,_⟩:=(M4.E id e he).ex
             have e1c:=EB4.at' 1 _ rfl
             have eBf:=EB4.fz
             have M5:=M4.setA he (i:=i') (j:=j) (by omega) (by omega)
             have st5:Stp p' p' h3 (hset h5 ⟨p'.eb id,1,none⟩ (.complex .f64 (Fx.enc i') (Fx.enc j))):=(Stp.fr0 f4).trans (stp_set M4 hcb)
             have R5:RowAt (hset h5 ⟨p'.eb id,1,none⟩ (.complex .f64 (Fx.enc i') (Fx.enc j))) (some ⟨bk0,off0,none⟩) (ids L):=R4.fr (S:=fun y=>y=p'.eb id) ((Fr.refl _ _).set rfl) fun y hy hb=>by
              obtain ⟨a,ha,rfl⟩:=hy
              cases ha
              have hb':bk0=p'.eb id:=hb
              rw [hb',hcb] at hc0'; cases hc0'
             obtain ⟨h6,e6⟩:∃ h6,h6=hset h5 ⟨p'.eb id,1,none⟩ (.complex .f64 (Fx.enc i') (Fx.enc j)):=⟨_,rfl⟩
             have z56:h6.size=h5.size:=by rw [e6,hset_size]
             have he5:(setE s'.cs id i' j)[id]?=some { e with a1:=i',a2:=j }:=by rw [setE_at he,if_pos rfl]
             have e06:hcell h6 ⟨p'.eb id,0,none⟩=some (.slice (some ⟨ebk,eoff,none⟩) e.lits.length Ecap):=by
              rw [e6,hcell_hset,if_neg (by omega)]; exact e04
             have ebne:ebk≠p'.eb id:=fun h=>by rw [h,hcb] at ccon; cases ccon
             have cw:hcell h6 ⟨ebk,eoff+j,none⟩=some (.int .i64 zz):=by
              rw [e6,hcell_hset,if_neg (fun h=>ebne h.1)]
              exact (f4.cell (hcell_lt (ehc j _ (ints_at hzz))) (fun h=>h)).trans (ehc j _ (ints_at hzz))
             rw [← e6] at M5 st5 R5
             have s26:=M5.B.at' 2 _ rfl
             obtain ⟨A,cap,hcu,SA6,hcA6⟩:=(M5.W zz).cur
             have lk6:=M5.look zz
             rw [hcu] at lk6
             have hWz:({ s' with cs:=setE s'.cs id i' j }:WS).W zz=s'.W zz:=rfl
             rw [hWz] at hcu SA6 lk6
             have hwz:(s'.W zz).length≤s'.cs.length:=by
              have:=F.inv.wlen zz
              have h2:(updW s'.W lit (s'.W lit++id::L.drop (i+1)) zz).length≤s'.cs.length:=this
              rwa [updW_other _ _ hzzl] at h2
             simp -implicitDefEqProofs (disch:=omega) [go_sem,r0,r1,r6,r7,r8,r9,r10,r23,r24,r25,e1c,eBf]
             refine drawC [(0,0),(1,0),(2,0),(3,2),(4,0),(5,0),(6,0),(7,2),(8,0),(9,0),(10,2),(11,0),(12,0),(13,0),(14,2),(15,0),(16,0),(17,0),(18,2),(19,0),(20,0),(21,2),(22,2),(23,0),(24,3),(25,3),(26,4)] (fun h'=>hcell h' ⟨bb,2,none⟩=some (.map (some p'.mb))∧hcell h' ⟨p'.eb id,0,none⟩=some (.slice (some ⟨ebk,eoff,none⟩) e.lits.length Ecap)∧hcell h' ⟨ebk,eoff+j,none⟩=some (.int .i64 zz) ∧
              lookV Tryz.prog 102 (.map (some p'.mb)) (.int .i64 zz) false h'=some (.slice A (s'.W zz).length cap)) (by rw [← e6]; exact ⟨s26,e06,cw,lk6⟩) ?_
             rw [← e6]
             simp -implicitDefEqProofs (disch:=omega) [go_sem,r0,r1,r8,r9]
             refine float2 (.map (some p'.mb)) (fun h' hC=>by obtain ⟨q1,q2,q3,q4⟩:=hC; simp -implicitDefEqProofs (disch:=omega) [go_sem,r0,r1,r8,r9,q1]) ?_
             simp -implicitDefEqProofs (disch:=omega) [go_sem,r0,r1,r8,r9]
             refine float2 (.slice (some ⟨ebk,eoff,none⟩) e.lits.length Ecap) (fun h' hC=>by obtain ⟨q1,q2,q3,q4⟩:=hC; simp -implicitDefEqProofs (disch:=omega) [go_sem,r0,r1,r8,r9,q2]) ?_
             simp -implicitDefEqProofs (disch:=omega) [go_sem,r0,r1,r8,r9]
             refine float2 (.int .i64 zz) (fun h' hC=>by obtain ⟨q1,q2,q3,q4⟩:=hC; simp -implicitDefEqProofs (disch:=omega) [go_sem,r0,r1,r8,r9,q3]) ?_
             simp -implicitDefEqProofs (disch:=omega) [go_sem,r0,r1,r8,r9]
             refine float2 (.map (some p'.mb)) (fun h' hC=>by obtain ⟨q1,q2,q3,q4⟩:=hC; simp -implicitDefEqProofs (disch:=omega) [go_sem,r0,r1,r8,r9,q1]) ?_
             simp -implicitDefEqProofs (disch:=omega) [go_sem,r0,r1,r8,r9]
             refine float2 (.slice (some ⟨ebk,eoff,none⟩) e.lits.length Ecap) (fun h' hC=>by obtain ⟨q1,q2,q3,q4⟩:=hC; simp -implicitDefEqProofs (disch:=omega) [go_sem,r0,r1,r8,r9,q2]) ?_
             simp -implicitDefEqProofs (disch:=omega) [go_sem,r0,r1,r8,r9]
             refine float2 (.int .i64 zz) (fun h' hC=>by obtain ⟨q1,q2,q3,q4⟩:=hC; simp -implicitDefEqProofs (disch:=omega) [go_sem,r0,r1,r8,r9,q3]) ?_
             simp -implicitDefEqProofs (disch:=omega) [go_sem,r0,r1,r8,r9]
             refine float2 (.slice A (s'.W zz).length cap) (fun h' hC=>by obtain ⟨q1,q2,q3,q4⟩:=hC; simp -implicitDefEqProofs (disch:=omega) [go_sem,r0,r1,r8,r9,q4]) ?_
             simp -implicitDefEqProofs (disch:=omega) [go_sem,r0,r1,r8,r9]
             refine build1 rfl rfl ?_
             have hC':∀ h',Fr (fun y=>p'.c y=some (.wat zz)) h6 h'→hcell h' ⟨bb,2,none⟩=some (.map (some p'.mb))∧hcell h' ⟨p'.eb id,0,none⟩=some (.slice (some ⟨ebk,eoff,none⟩) e.lits.length Ecap)∧hcell h' ⟨ebk,eoff+j,none⟩=some (.int .i64 zz) ∧
                lookV Tryz.prog 102 (.map (some p'.mb)) (.int .i64 zz) false h'=some (.slice A (s'.W zz).length cap):=fun h' f =>
              ⟨(f.cell (hcell_lt s26) (by rw [M5.cB]; exact fun h=>(nomatch h))).trans s26,(f.cell (hcell_lt e06) (by rw [hcb]; exact fun h=>(nomatch h))).trans e06,(f.cell (hcell_lt cw) (by rw [ccon]; exact fun h=>(nomatch h))).trans cw,
                by rw [← hcu]; exact (M5.M.fr f (by rw [M5.cM]; exact fun h=>(nomatch h))).look mapT_w zero_w zz⟩
             have f6:Fr (fun y=>p'.c y=some (.wat zz)) h6 (h6.push (.cells #[.int .i64 id] 3)):=(Fr.refl _ _).push
             refine ⟨hC' _ f6,?_⟩
             simp -implicitDefEqProofs (disch:=omega) [go_sem,r0,r1,r8,r9]
             refine appendQ (vs:=ids (s'.W zz)) (ws:=[.int .i64 (id:Int)]) (SA6.fr ((Fr.refl (fun _=>False) h6).push) (fun _ _ h=>h)) (by rw [ids_len]) (SlAt.new (vs:=[.int .i64 (id:Int)])).row rfl (by simp [Value.oneCell']) (by omega) (by omega) ?_
             intro A7 cap7 h7 S7 f7 hA7
             have f67:Fr (fun y=>p'.c y=some (.wat zz)) h6 h7:=f6.trans (f7.mono fun y _ hy=>hcA6 y hy)
             have R7:RowAt h7 (some ⟨bk0,off0,none⟩) (ids L):=R5.fr f67 fun y hy hb=>by
              obtain ⟨a,ha,rfl⟩:=hy
              cases ha
              have hb':p'.c bk0=some (.wat zz):=hb
              rw [hc0'] at hb'
              have:=Option.some.inj hb'
              cases this
              exact hzzl rfl
             refine ⟨hC' _ f67,?_⟩
             simp -implicitDefEqProofs (disch:=omega) [go_sem,r0,r1,r8,r9]
             have M7:=M5.M.fr f67 (by rw [M5.cM]; exact fun h=>(nomatch h))
             refine M7.up mapT_w fun h8 M8 f8=>?_
             have ei:ids (s'.W zz)++[.int .i64 (id:Int)]=ids (s'.W zz++[id]):=by rw [ids_append]; rfl
             rw [ei] at S7
             have hlen7:(s'.W zz++[id]).length=(s'.W zz).length+1:=by simp
             have R8:RowAt h8 (some ⟨bk0,off0,none⟩) (ids L):=R7.fr f8 fun y hy hb=>by
              obtain ⟨a,ha,rfl⟩:=hy
              cases ha
              have hb':bk0=p'.mb:=hb
              rw [hb',M4.cM] at hc0'; cases hc0'
             obtain ⟨p8,MB8,st8,heb8,hf8,hmb8⟩:=M5.wat (x:=zz) (w:=s'.W zz++[id]) f67 S7 (fun y hy=>(hA7 y hy).elim (fun h=>.inl (hcA6 y h)) fun h=>.inr (by rw [push_size] at h; omega)) (by rw [hlen7]; exact M8) f8
             have Fm:=F.move he hg hx' hzz (Ne.symm hpz.2) hol hzzl hoW (fun w hw=>by
              rcases hpairw w hw with h | h
              · rw [h]; exact Ne.symm hzzl
              · rw [h]; exact Ne.symm hpz.2) (by omega)
             simp -implicitDefEqProofs (disch:=omega) [go_sem,r0,r1,r6,r7,r8,r9,r10,r23,r24,r25]
             exact ⟨⟨i+1,by omega,by omega,p8,_,⟨MB8,Fm,(FL.st.trans st5).trans st8,FL.adv.trans ⟨rfl,rfl,absC_setE _ _ _ _,.refl _⟩,FL.hd,heb8.trans FL.eb,R8,by
              rw [hf8]
              simp only [if_neg (Ne.symm hzzl)]
              exact FL.cur⟩⟩,by omega⟩
end
end Xe
namespace Xe
open Tp
def newW (vars:Nat):WS:=⟨vars,[],0,[],fun _=>[],[],0⟩
theorem newW_inv {vars:Nat} (hv:vars≤16777216):WInv (newW vars) where
 good:=Good.nil _
 lvs:=.nil
 hv:=hv
 cl e he:=absurd he List.not_mem_nil
 head:=Nat.le_refl _
 todoN:=List.nodup_nil
 todoL id h:=absurd h List.not_mem_nil
 wN _:=List.nodup_nil
 wL _ id h:=absurd h List.not_mem_nil
 w1 _ id h:=absurd h List.not_mem_nil
 main id e he:=by simp [newW] at he
 rs i t ht:=by simp [newW] at ht
section
variable {s:WS}
theorem WInv.add (I:WInv s) {L:List Int} (hr:Rise L) (hL:∀ x∈L,1≤x.natAbs∧x.natAbs≤s.vars):WInv { s with cs:=s.cs++[⟨L,0,0,false⟩],todo:=s.todo++[s.cs.length] }:=by
 have old:∀ {id:Nat} {e:Ent},(s.cs++[⟨L,0,0,false⟩])[id]?=some e→id≠s.cs.length→s.cs[id]?=some e:=fun {id e} h hn=>by
  have hl:=(List.getElem?_eq_some_iff.1 h).1
  rw [List.length_append] at hl
  simp at hl
  rwa [List.getElem?_append_left (by omega)] at h
 exact {
  good:=I.good
  lvs:=I.lvs
  hv:=I.hv
  cl:=fun e he=>by
   have he':e∈s.cs++[⟨L,0,0,false⟩]:=he
   rw [List.mem_append,List.mem_singleton] at he'
   rcases he' with h | rfl
   · exact I.cl e h
   · exact ⟨hr,hL⟩
  head:=I.head
  todoN:=by
   show (s.todo++[s.cs.length]).Nodup
   rw [List.nodup_append]
   exact ⟨I.todoN,by simp,fun a ha b hb=>by rw [List.mem_singleton] at hb; have:=I.todoL a ha; omega⟩
  todoL:=fun id h=>by
   have h':id∈s.todo++[s.cs.length]:=h
   rw [List.mem_append,List.mem_singleton] at h'
   show id<(s.cs++[_]).length
   rw [List.length_append]
   rcases h' with h | rfl
   · have:=I.todoL id h; simp; omega
   · simp
  wN:=I.wN
  wL:=fun x id h=>by
   obtain ⟨h1,h2⟩:=I.wL x id h
   refine ⟨by show id<(s.cs++[_]).length; rw [List.length_append]; omega,?_⟩
   show id∉s.todo++[s.cs.length]
   rw [List.mem_append,List.mem_singleton]
   exact fun h3=>h3.elim h2 fun h4=>by omega
  w1:=fun x id h e he hg=>I.w1 x id h e (old he (by have:=(I.wL x id h).1; omega)) hg
  main:=fun id e he hg hn=>by
   have hn':id∉s.todo++[s.cs.length]:=hn
   rw [List.mem_append,List.mem_singleton] at hn'
   exact I.main id e (old he (fun h=>hn' (.inr h))) hg (fun h=>hn' (.inl h))
  rs:=fun i t ht hp=>by
   obtain ⟨e,he,hg,hu⟩:=I.rs i t ht hp
   exact ⟨e,by show (s.cs++[_])[_]?=_; rw [List.getElem?_append_left (List.getElem?_eq_some_iff.1 he).1]; exact he,hg,hu⟩ }
def decS (s:WS) (x:Int):WS:={ s with l:=pushL s.vars s.l x (-1) (s.level+1),level:=if pushE s.vars s.l x (-1)=0 then s.level+1 else s.level }
theorem varI_of {vars:Nat} {x:Int} (h:¬ varI vars x=0):1≤x.natAbs∧x.natAbs≤vars:=by
 unfold varI at h
 split at h
 · assumption
 · exact absurd rfl h
theorem pushE_ok {vars:Nat} {l:List St} {x r:Int} (e:pushE vars l x r=0):(1≤x.natAbs∧x.natAbs≤vars)∧find l x.natAbs=none:=by
 unfold pushE at e
 split at e
 · omega
 · rename_i h
   split at e
   · omega
   · rename_i h2
     exact ⟨varI_of fun h3=>h (.inl h3),by simpa using h2⟩
theorem WInv.dec (I:WInv s) (x:Int):WInv (decS s x):=by
 unfold decS pushL
 by_cases e:pushE s.vars s.l x (-1)=0
 · rw [if_pos e,if_pos e]
   obtain ⟨h1,h2⟩:=pushE_ok e
   exact I.grow (t:=⟨x,-1,s.level+1⟩) (n:=s.level+1) h2 h1.1 h1.2 (.dec x I.lvs) (fun h=>by simp at h)
 · rw [if_neg e,if_neg e]
   exact I
def Quiet (C:List (List Int × Bool)) (l:List St):Prop:=∀ (id:Nat) c,C[id]?=some (c,false)→(∀ x,¬ UnitAt l c x)∧¬ FailAt l c
theorem absC_back {cs:List Ent} {id:Nat} {c:List Int} {g:Bool} (h:(absC cs)[id]?=some (c,g)):∃ e,cs[id]?=some e∧e.lits=c∧e.gone=g:=by
 unfold absC at h
 rw [List.getElem?_map,Option.map_eq_some_iff] at h
 obtain ⟨e,he,h2⟩:=h
 simp only [Prod.mk.injEq] at h2
 exact ⟨e,he,h2.1,h2.2⟩
theorem WInv.quiet (I:WInv s) (ht:s.todo=[]) (hh:s.head=s.l.length):Quiet (absC s.cs) s.l:=by
 intro id c hc
 obtain ⟨e,he,rfl,hg⟩:=absC_back hc
 have key:Sat s.l e.lits∨∃ y z,y∈e.lits∧z∈e.lits∧y≠z∧trI s.l y≠-1∧trI s.l z≠-1:=by
   rcases I.main id e he hg (by rw [ht]; exact List.not_mem_nil) with h | ⟨y,z,hp,h1,h2⟩
   · exact .inl h
   · have hl:(lits s.l).length=s.l.length:=by unfold lits; rw [List.length_map]
     have nopend:∀ w,okW s.l s.head w→trI s.l w≠-1:=fun w hw=>hw.elim (fun h=>h) fun ⟨k,hk,h⟩=>by
      have:=(List.getElem?_eq_some_iff.1 h).1; omega
     exact .inr ⟨y,z,List.mem_of_getElem? hp.l1,List.mem_of_getElem? hp.l2,rise_ne (I.cl e (List.mem_of_getElem? he)).1 hp.l1 hp.l2 hp.ne,nopend y h1,nopend z h2⟩
 refine ⟨fun x ⟨hx,h0,hu⟩=>?_,fun hf=>?_⟩
 · rcases key with ⟨w,hw,h1⟩ | ⟨y,z,hy,hz,hyz,h1,h2⟩
   · by_cases e:w=x
     · rw [e] at h1; omega
     · have:=hu w hw e; omega
   · by_cases e:y=x
     · exact h2 (hu z hz (fun h=>hyz (e.trans h.symm)))
     · exact h1 (hu y hy e)
 · rcases key with ⟨w,hw,h1⟩ | ⟨y,z,hy,hz,hyz,h1,h2⟩
   · have:=hf w hw; omega
   · exact h1 (hf y hy)
theorem US.pre {C:List (List Int × Bool)} {lev:Nat} {l l':List St} (h:US C lev l l'):∃ ext,l'=l++ext:=by
 induction h with
 | refl=>exact ⟨[],(List.append_nil _).symm⟩
 | step _ hc hu ih =>
   obtain ⟨ext,rfl⟩:=ih
   exact ⟨ext++[_],by rw [List.append_assoc]⟩
end
end Xe
namespace Xe
open Go Tp Go.Proofs
set_option maxRecDepth 16000
set_option maxHeartbeats 1000000
def tlenAt (h:Heap) (b:Nat):Nat:=match hcell h ⟨b,3,none⟩ with
 | some (.slice _ n _)=>n
 | _=>0
def headAt (h:Heap) (b:Nat):Nat:=match hcell h ⟨b,4,none⟩ with
 | some (.int _ i)=>i.toNat
 | _=>0
section
variable {h:Heap} {bb:Nat} {p:BP} {s:WS}
theorem BaseM.tlen (M:BaseM h bb p s):tlenAt h bb=s.todo.length:=by unfold tlenAt; rw [M.B.at' 3 _ rfl]
theorem BaseM.headN (M:BaseM h bb p s):headAt h bb=s.head:=by unfold headAt; rw [M.B.at' 4 _ rfl]; simp
theorem prop_m (M:BaseM h bb p s) (I:WInv s):CallsH Tryz.prog 61 [.pointer (some ⟨bb,0,none⟩)] h fun r h' =>
   ∃ p' s',BaseM h' bb p' s'∧Stp p p' h h'∧WInv s'∧Adv s s' ∧
     ((∃ id e,r=.tuple #[.int .i64 (id:Nat),.bool false]∧s'.cs[id]?=some e∧e.gone=false∧FailAt s'.l e.lits)∨(r=.tuple #[.int .i64 (-1),.bool true]∧s'.todo=[]∧s'.head=s'.l.length)):=by
 refine calls_of 68 [.tmp 2,.tmp 3] Go.Proofs.Tryz.func61 rfl rfl rfl ?_
 simp -implicitDefEqProofs (disch:=omega) [go_sem]
 refine scopeL 0 (fun ρ h'=>ρ 0=.pointer (some ⟨bb,0,none⟩)∧∃ p' s',BaseM h' bb p' s'∧Stp p p' h h'∧WInv s'∧Adv s s')
   (fun _ h'=>tlenAt h' bb+(16777217-headAt h' bb)) (by kernel_rfl) ?_ ?_
 · exact ⟨rfl,p,s,M,Stp.refl,I,Adv.refl s⟩
 · rintro ρ h1 ⟨r0,p1,s1,M1,st1,I1,ad1⟩
   have s3:=M1.B.at' 3 _ rfl
   have hsm:=M1.sm
   have hvv:=I1.hv
   have hln:=I1.good.len
   have etl:=M1.tlen
   have ehd:=M1.headN
   have hhd:=I1.head
   cases ht:s1.todo with
   | cons id rest =>
     rw [ht] at s3
     have D1:=M1.D
     rw [ht] at D1
     have hcl:=D1.len
     rw [ids_len,List.length_cons] at hcl
     obtain ⟨bk,off,hTA,_,_,hc⟩:=D1.base (by omega)
     have c0:=hc 0 _ rfl
     rw [Nat.add_zero] at c0
     rw [hTA,List.length_cons] at s3
     simp -implicitDefEqProofs (disch:=omega) [go_sem,r0,s3,c0]
     refine useC (look_m M1 I1 ht) ?_
     rintro _ h2 ⟨p2,s2,M2,st2,hor⟩
     rcases hor with ⟨rfl,rfl,e,he,hg,hf⟩ | ⟨rfl,htd,hh2,I2,ad2⟩
     · simp -implicitDefEqProofs (disch:=omega) [go_sem,r0]
       exact ⟨p2,s2,M2,st1.trans st2,I1,ad1,by first | exact ⟨id,rfl,e,he,hg,hf⟩ | exact ⟨id,e,rfl,he,hg,hf⟩ | exact ⟨e,he,hg,hf⟩⟩
     · have s32:=M2.B.at' 3 _ rfl
       have D2:=M2.D
       rw [htd,ht] at D2 s32
       have hcl2:=D2.len
       rw [ids_len,List.length_cons] at hcl2
       obtain ⟨bk2,off2,hTA2,_,_,_⟩:=D2.base (by omega)
       rw [hTA2] at D2
       rw [hTA2,List.length_cons] at s32
       have fz:=M2.B.fz
       have D3:=SlO.tail (v:=.int .i64 (id:Int)) (vs:=ids rest) D2
       obtain ⟨p3,M3,st3,_⟩:=M2.todo (l':=rest) (Fr.refl _ _) D3 (fun y hy=>.inl (by rw [hTA2]; obtain ⟨a,ha,rfl⟩:=hy; cases ha; exact ⟨_,rfl,rfl⟩)) (by have:=hsm.2; rw [ht,List.length_cons] at this; omega)
       simp -implicitDefEqProofs (disch:=omega) [go_sem,r0,s32,fz]
       have e3:({ s2 with todo:=rest }:WS).todo=rest:=rfl
       refine ⟨⟨p3,_,M3,(st1.trans st2).trans st3,I2,ad1.trans ⟨ad2.vars,ad2.level,ad2.cs,ad2.us⟩⟩,?_⟩
       have e4:=M3.tlen
       have e5:=M3.headN
       rw [e4,e5,etl,ehd,ht,hh2]
       show rest.length+(16777217-s1.head)<(id::rest).length+(16777217-s1.head)
       rw [List.length_cons]; omega
   | nil =>
     rw [ht] at s3
     have s0:=M1.B.at' 0 _ rfl
     have s4:=M1.B.at' 4 _ rfl
     simp -implicitDefEqProofs (disch:=omega) [go_sem,r0,s3,s0]
     refine useC (tlits_ok M1.T) ?_
     rintro _ h2 ⟨A',c',rfl,S,own,f2⟩
     have M2:=M1.fr0 f2
     have s42:=(f2.cell (o:=4) (hcell_lt s4) (fun h=>h)).trans s4
     by_cases hlt:s1.head<s1.l.length
     · obtain ⟨t,htt⟩:∃ t,s1.l[s1.head]?=some t:=⟨_,List.getElem?_eq_getElem hlt⟩
       have hlt':(lits s1.l)[s1.head]?=some t.lit:=by unfold lits; rw [List.getElem?_map,htt]; rfl
       obtain ⟨bk,off,rfl,hc⟩:=S.row.get (by rw [ints_len]; unfold lits; rw [List.length_map]; omega)
       have c0:=hc _ _ (ints_at hlt')
       have hrg:=I1.good.rng t (List.mem_of_getElem? htt)
       simp -implicitDefEqProofs (disch:=omega) [go_sem,r0,s42,c0]
       refine useC (falls_m M2 I1 ht (lit:=-t.lit) (by rw [Int.neg_neg]; exact hlt') (by omega)) ?_
       rintro _ h3 ⟨p3,s3',M3,st3,htd3,hh3,ad3,hor⟩
       rcases hor with ⟨id,e,rfl,he,hg,hf,I3⟩ | ⟨rfl,I3⟩
       · simp -implicitDefEqProofs (disch:=omega) [go_sem,r0]
         exact ⟨p3,s3',M3,(st1.trans (Stp.fr0 f2)).trans st3,I3,ad1.trans ad3,by first | exact ⟨id,rfl,e,he,hg,hf⟩ | exact ⟨id,e,rfl,he,hg,hf⟩ | exact ⟨e,he,hg,hf⟩⟩
       · have s43:=M3.B.at' 4 _ rfl
         have fz:=M3.B.fz
         have M4:=M3.setHead (s1.head+1)
         have ehn:((s1.head+1:Nat):Int)=(s1.head:Int)+1:=by omega
         rw [ehn] at M4
         have st4:Stp p3 p3 h3 (hset h3 ⟨bb,4,none⟩ (.int .i64 ((s1.head:Int)+1))):=stp_set M3 M3.cB
         rw [hh3] at s43
         simp -implicitDefEqProofs (disch:=omega) [go_sem,r0,s43,fz]
         refine ⟨⟨p3,_,M4,((st1.trans (Stp.fr0 f2)).trans st3).trans st4,I3,ad1.trans ⟨ad3.vars,ad3.level,ad3.cs,ad3.us⟩⟩,?_⟩
         have e4:=M4.tlen
         have e5:=M4.headN
         rw [e4,e5,etl,ehd,ht]
         show s3'.todo.length+(16777217-(s1.head+1))<0+(16777217-s1.head)
         rw [htd3]
         show 0+_<_
         omega
     · simp -implicitDefEqProofs (disch:=omega) [go_sem,r0,s42]
       exact ⟨p1,s1,M2,st1.trans (Stp.fr0 f2),I1,ad1,ht,by omega⟩
theorem bdecide_m (M:BaseM h bb p s) {x:Int} (h0:-9223372036854775808≤x) (h1:x≤9223372036854775807):CallsH Tryz.prog 60 [.pointer (some ⟨bb,0,none⟩),.int .i64 x] h fun r h' =>
  r=.int .i64 (pushE s.vars s.l x (-1):Nat)∧∃ p',BaseM h' bb p' (decS s x)∧Stp p p' h h':=by
 have s0:=M.B.at' 0 _ rfl
 refine calls_of 11 [.tmp 4] Go.Proofs.Tryz.func60 rfl rfl rfl ?_
 simp -implicitDefEqProofs (disch:=omega) [go_sem,s0]
 refine useC (tdecide_ok M.T h0 h1) ?_
 rintro _ h2 ⟨rfl,O2,T2,nx2⟩
 simp -implicitDefEqProofs (disch:=omega) [go_sem]
 obtain ⟨p',M',st,_⟩:=M.trail T2 nx2
 exact ⟨p',M',st⟩
theorem bnew_m {x:Int} (h0:-9223372036854775808≤x) (h1:x≤9223372036854775807):CallsH Tryz.prog 58 [.int .i64 x] h fun r h' =>
   ((x<0∨16777216<x)∧r=.pointer none∧h'=h) ∨
     (∃ vars bb:Nat,x=vars∧vars≤16777216∧r=.pointer (some ⟨bb,0,none⟩)∧∃ p,BaseM h' bb p (newW vars)∧(∀ y t,p.c y=some t→h.size≤y)∧Fr (fun _=>False) h h'):=by
 refine calls_of 12 [.tmp 2] Go.Proofs.Tryz.func58 rfl rfl rfl ?_
 simp -implicitDefEqProofs (disch:=omega) [go_sem]
 refine useC (tnew_ok h0 h1) ?_
 rintro _ h2 (⟨hb,rfl,rfl⟩ | ⟨vars,tb,rfl,hv,rfl,OT,T,nx⟩)
 · simp -implicitDefEqProofs (disch:=omega) [go_sem]
   omega
 · have hn:¬ ((vars:Int)<0∨16777216<(vars:Int)):=by omega
   simp -implicitDefEqProofs (disch:=omega) [go_sem,hn]
   refine ⟨vars,rfl,hv,?_⟩
   have z2:=nx.fr.size
   have T4:TrailOk ((h2.push (.map #[] 0)).push (.cells #[.pointer (some ⟨tb,0,none⟩),.slice none 0 0,.map (some h2.size),.slice none 0 0,.int .i64 0] 104)) tb OT vars [] 0:=T.fr0 ((Fr.refl _ _).push.push)
   have hlow:=T.low
   classical
   refine ⟨⟨tb,h2.size,OT,none,0,fun _=>0,none,0,fun _=>none,fun y=>if OT y then some .trail else if y=h2.size then some .map else if y=h2.size+1 then some .base else none⟩,?_,fun y t hy=>?_,?_⟩
   · have hB:ListB ((h2.push (.map #[] 0)).push (.cells #[.pointer (some ⟨tb,0,none⟩),.slice none 0 0,.map (some h2.size),.slice none 0 0,.int .i64 0] 104)) (h2.size+1) [.pointer (some ⟨tb,0,none⟩),.slice none 0 0,.map (some h2.size),.slice none 0 0,.int .i64 0]:=by
       have:=ListB.new (h:=h2.push (.map #[] 0)) (vs:=[.pointer (some ⟨tb,0,none⟩),.slice none 0 0,.map (some h2.size),.slice none 0 0,.int .i64 0]) (e:=104)
       rw [push_size] at this
       exact this
     have no1:¬ OT (h2.size+1):=fun h=>by have:=hlow _ h; omega
     have no0:¬ OT h2.size:=fun h=>by have:=hlow _ h; omega
     exact {
       low:=fun y t hy=>by
         rw [push_size,push_size]
         simp only at hy
         split at hy
         · rename_i ho; have:=hlow y ho; omega
         · split at hy
           · omega
           · split at hy
             · omega
             · cases hy
       B:=hB
       cB:=by simp only [if_neg no1]; rw [if_neg (by omega)]; simp
       T:=T4
       cT:=fun y hy=>if_pos hy
       L:=SlAt.nil _
       cL:=fun y ⟨_,h,_⟩=>(nomatch h)
       E:=fun id e he=>by simp [newW] at he
       M:=MapAt.new.same (push_old (by rw [push_size]; omega))
       cM:=by simp [no0]
       W:=fun y=>rfl
       D:=SlO.nil
       cD:=fun y ⟨_,h,_⟩=>(nomatch h)
       sm:=⟨by show 0<_; omega,by show 0<_; omega⟩ }
   · simp only at hy
     split at hy
     · rename_i ho; exact (nx.own y ho).elim (fun h=>h.elim) fun h=>h
     · split at hy
       · omega
       · split at hy
         · omega
         · cases hy
   · exact (nx.fr.trans (Fr.refl _ _)).push.push
end
section
variable {h:Heap} {bb:Nat} {p:BP} {s:WS}
theorem BaseM.addE {h0 h4:Heap} (M0:BaseM h0 bb p s) (M:BaseM h bb p s) (hz:h0.size≤h.size) {A' L':Option Addr} {cap' cl':Nat} {L:List Int} (RA:RowAt h A' (ints L)) (hA1:∀ y,blk A' y→h0.size≤y∧y<h.size) (f:Fr (blk p.L) h h4)
  (EB:ListB h4 h.size [.slice A' L.length cap',.complex .f64 (Fx.enc 0) (Fx.enc 0),.bool false]) (SL:SlAt h4 L' cl' (eptrs p.eb s.cs.length++[.pointer (some ⟨h.size,0,none⟩)])) (hL:∀ y,blk L' y→blk p.L y∨h.size+1≤y) (hlen:L.length≤16777216) (hn:s.cs.length+1<2^40) :
  ∃ p',BaseM (hset h4 ⟨bb,1,none⟩ (.slice L' (s.cs.length+1) cl')) bb p' { s with cs:=s.cs++[⟨L,0,0,false⟩] }∧(∀ x t,p.c x=some t→p'.c x=some t)∧(∀ x t,p'.c x=some t→p.c x=some t∨h0.size≤x)∧p'.TA=p.TA∧p'.tc=p.tc:=by
 obtain ⟨c1,a1,a2,a3⟩:=reco (c:=p.c) (sz:=h0.size) (blk A') .con (fun y hy=>.inr (hA1 y hy).1) M0.low
 have low1:∀ x u,c1 x=some u→x<h.size:=fun x u hx=>(a3 x u hx).elim (M.low x u) fun h=>(hA1 x h.1).2
 obtain ⟨c2,b1,b2,b3⟩:=reco (c:=c1) (sz:=h.size) (fun x=>x=h.size) (.ent s.cs.length) (fun y hy=>.inr (by omega)) low1
 have low2:∀ x u,c2 x=some u→x<h.size+1:=fun x u hx=>(b3 x u hx).elim (fun h=>by have:=low1 x u h; omega) fun h=>by omega
 obtain ⟨c3,d1,d2,d3⟩:=reco (c:=c2) (sz:=h.size+1) (blk L') .lst (fun y hy=>(hL y hy).imp_left fun h=>b2 _ _ (a2 _ _ (M.cL y h))) low2
 have ext:∀ x t,p.c x=some t→c3 x=some t:=fun x t hx=>d2 _ _ (b2 _ _ (a2 _ _ hx))
 have own:∀ x t,c3 x=some t→p.c x=some t∨h0.size≤x:=fun x t hx=>by
  rcases d3 x t hx with h | ⟨_,h⟩
  · rcases b3 x t h with h | ⟨_,h⟩
    · rcases a3 x t h with h | ⟨_,h⟩
      · exact .inl h
      · exact .inr h
    · exact .inr (by omega)
  · exact .inr (by omega)
 have g:Fr (fun x=>p.c x=some .lst) h h4:=f.mono fun x _ hx=>M.cL x hx
 have B4:=M.B.fr g (fun h=>by rw [M.cB] at h; cases h)
 have f2:Fr (fun x=>p.c x=some .lst∨x=bb) h (hset h4 ⟨bb,1,none⟩ (.slice L' (s.cs.length+1) cl')):=(g.mono fun _ _ h=>.inl h).set (.inr rfl)
 have nb:∀ {x:Nat} {t:Tag},p.c x=some t→t≠.lst→t≠.base→¬ (p.c x=some .lst∨x=bb):=fun h h1 h2 hn=>by
  rcases hn with hn | rfl
  · rw [h] at hn; cases hn; exact h1 rfl
  · rw [M.cB] at h; cases h; exact h2 rfl
 have nb2:∀ {x:Nat} {t:Tag},(p.c x=some .lst∨x=bb)→t≠.lst→t≠.base→p.c x≠some t:=fun hx h1 h2 h=>nb h h1 h2 hx
 have hbb:=M0.low bb _ M0.cB
 have hnc:(s.cs++[(⟨L,0,0,false⟩:Ent)]).length=s.cs.length+1:=by simp
 have hcon:∀ y,blk A' y→c3 y=some .con:=fun y hy=>d2 _ _ (b2 _ _ (a1 y hy))
 have hunc:∀ y,blk A' y→¬ (p.c y=some .lst∨y=bb):=fun y hy h=>by
  have:=(hA1 y hy).1
  rcases h with h | h
  · have:=M0.low y _ h; omega
  · omega
 refine ⟨{ p with L:=L',cl:=cl',eb:=fun id=>if id=s.cs.length then h.size else p.eb id,c:=c3 },?_,ext,own,rfl,rfl⟩
 exact {
  low:=fun x t hx=>by
    rw [hset_size]
    rcases d3 x t hx with h | ⟨h,_⟩
    · have:=low2 x t h; have:=EB.lt; omega
    · exact SL.blk_lt h
  B:=by rw [hnc]; exact B4.set (i:=1) (.slice L' (s.cs.length+1) cl') (by simp)
  cB:=ext _ _ M.cB
  T:=M.T.fr f2 fun x hx=>nb (M.cT x hx) (fun h=>(nomatch h)) (fun h=>(nomatch h))
  cT:=fun x hx=>ext _ _ (M.cT x hx)
  L := by
    show SlAt _ L' cl' (eptrs (fun id=>if id=s.cs.length then h.size else p.eb id) (s.cs++[(⟨L,0,0,false⟩:Ent)]).length)
    rw [hnc]
    have e:eptrs (fun id=>if id=s.cs.length then h.size else p.eb id) (s.cs.length+1)=eptrs p.eb s.cs.length++[.pointer (some ⟨h.size,0,none⟩)]:=by
      unfold eptrs
      rw [List.range_succ,List.map_append]
      congr 1
      · refine List.map_congr_left fun i hi=>?_
        rw [List.mem_range] at hi
        simp only [if_neg (show ¬ i=s.cs.length by omega)]
      · simp
    rw [e]
    exact SL.keep (fun x hx=>hset_other (fun e=>by
      have e':x=bb:=e
      rw [e'] at hx
      rcases hL bb hx with h | h
      · have:=M.cL bb h; rw [M.cB] at this; cases this
      · omega)) (by rw [hset_size]; exact Nat.le_refl _)
  cL:=d1
  E := fun id e he=>by
    have he':(s.cs++[(⟨L,0,0,false⟩:Ent)])[id]?=some e:=he
    by_cases hid:id=s.cs.length
    · subst hid
      rw [List.getElem?_append_right (Nat.le_refl _),Nat.sub_self] at he'
      simp only [List.getElem?_cons_zero,Option.some.injEq] at he'
      subst he'
      simp only [if_true]
      exact ⟨⟨A',cap',EB.oth (by omega),RA.fr f2 hunc,hcon⟩,d2 _ _ (b1 _ rfl),⟨by show 0≤_; omega,by show 0≤_; omega⟩,hlen⟩
    · have hl:=(List.getElem?_eq_some_iff.1 he').1
      rw [hnc] at hl
      rw [List.getElem?_append_left (by omega)] at he'
      simp only [if_neg hid]
      exact ((M.E id e he').fr f2 (fun x hx=>nb2 hx (fun h=>(nomatch h)) (fun h=>(nomatch h))) (fun x hx=>nb2 hx (fun h=>(nomatch h)) (fun h=>(nomatch h)))).ext ext
  M:=M.M.fr f2 (nb M.cM (fun h=>(nomatch h)) (fun h=>(nomatch h)))
  cM:=ext _ _ M.cM
  W:=fun x=>((M.W x).fr f2 fun y hy=>nb2 hy (fun h=>(nomatch h)) (fun h=>(nomatch h))).ext ext
  D:=M.D.fr f2 fun x hx=>nb (M.cD x hx) (fun h=>(nomatch h)) (fun h=>(nomatch h))
  cD:=fun x hx=>ext _ _ (M.cD x hx)
  sm:=⟨by rw [hnc]; exact hn,M.sm.2⟩ }
def addS (s:WS) (L:List Int):WS:={ s with cs:=s.cs++[⟨L,0,0,false⟩],todo:=s.todo++[s.cs.length] }
end
section
variable {h:Heap}
end
structure Args2 (h:Heap) (A:Option Addr) (m:Nat) (gs:Nat→List Int):Prop where
 small:m<2^63
 at':∀ i,i<m→∃ bk off B c,A=some ⟨bk,off,none⟩∧hcell h ⟨bk,off+i,none⟩=some (.slice B (gs i).length c)∧RowAt h B (ints (gs i))∧(gs i).length<2^63∧∀ x∈gs i,-9223372036854775808≤x∧x≤9223372036854775807
theorem Args2.fr {h:Heap} {A:Option Addr} {m:Nat} {gs:Nat→List Int} (R:Args2 h A m gs) {h':Heap} (f:Fr (fun _=>False) h h'):Args2 h' A m gs :=
 ⟨R.small,fun i hi=>by
  obtain ⟨bk,off,B,c,h1,h2,h3,h4⟩:=R.at' i hi
  exact ⟨bk,off,B,c,h1,(f.cell (hcell_lt h2) id).trans h2,h3.fr0 f,h4⟩⟩
section
variable {h:Heap}
end
end Xe
