/- Contract: sha.take. -/
import Derived.Test.YtahllkifmmjbdaaShxCKp
set_option linter.unusedVariables false
set_option linter.unusedSimpArgs false
namespace Go.Proofs.Ytahllkifmmjbdaa
open Go.RowKit Go.Maps Go.Sort
def TkTo (w:World) (S:Nat) (h:List Nat) (e:Ending) (w':World):Prop:=e = .returned (.tuple #[]) ∧ Blk w' S 69 (codU.row h) ∧ Fr (oneB S) w w'
set_option maxRecDepth 100000 in
set_option maxHeartbeats 40000000 in
theorem take_sh (w:World) (S K:Nat) (A:Option Addr) (n c:Nat) (l:List UInt8) (h:List Nat) (hn:l.length = n) (h64:64 ≤ l.length) (hb:l.length ≤ 1000000000100) (hs:Sl w A (bv l)) (hS:Blk w S 69 (codU.row h)) (hl8:h.length = 8) (hl32:Lt32 h) (hK:Blk w K 103 (codU.row rdsH)) (hSK:S ≠ K) :
  Calls Try.prog 38 #[.pointer (some ⟨S,0,none⟩),.slice A n c,.pointer (some ⟨K,0,none⟩)] w (TkTo w S (bkH rdsH l 0 h)):=by
 subst hn
 have HS:=Lib.hid (show Sl w A (codY.row l) by rw [row_Y];exact hs)
 have H64:=Lib.hid h64
 have HB:=Lib.hid hb
 have HSB:=Lib.hid hS
 have HKB:=Lib.hid hK
 have HL8:=Lib.hid hl8
 have HL32:=Lib.hid hl32
 have HSK:=Lib.hid hSK
 have HSl:=Lib.hid hS.lt
 have HKl:=Lib.hid hK.lt
 clear hs h64 hb hS hK hl8 hl32 hSK
 obtain ⟨g,off,rfl,hg⟩:=Sl.addr HS.out (by have:=H64.out;omega)
 clear hg
 obtain ⟨W,hW⟩:∃ W,W = w.heap.size:=⟨_,rfl⟩
 have HW:=Lib.hid hW
 have H0:=Lib.hid (show ∀ w1:World,w1 = w.alloc (.cells (codU.row (rowZu [] 64)).toArray 103) → ∃ i:Nat,Value.int .i64 0 = .int .i64 (i:Int) ∧ 16 = 16 - i ∧ i ≤ 16 ∧ Blk w1 W 103 (codU.row (rowZu (w16H l 0 i) (64 - i))) ∧ Fr noB w w1 from fun w1 e=>by subst e hW;exact ⟨0,rfl,rfl,by omega,Blk.new w _ _,(Fr.refl noB w).alloc _⟩)
 go_enter Try.func38,Try.ntmps38
 go_upto_region 1 with fail
 rw [← hW]
 clear hW
 go_wp2_with fail
 go_loopg [20] 16 (fun gk iv wr=>∃ i:Nat,iv = .int .i64 (i:Int) ∧ gk = 16 - i ∧ i ≤ 16 ∧ Blk wr W 103 (codU.row (rowZu (w16H l 0 i) (64 - i))) ∧ Fr noB w wr)
 case atStart=>exact H0.out _ rfl
 case round =>
  clear H0
  obtain ⟨i,rfl,rfl,hi,hbw,hf⟩:=hrel
  have HBW:=Lib.hid hbw
  have HF:=Lib.hid hf
  clear hbw hf
  by_cases hlt:i < 16
  ·have i1:(i:Int) < 16:=by omega
   have i2:(i:Int) < 64:=by omega
   obtain ⟨k,hk⟩:∃ k,64 - i = k + 1:=⟨63 - i,by omega⟩
   have HIL:=Lib.hid (show i < 16 ∧ 64 - (i + 1) = k by omega)
   rw [hk] at HBW
   obtain ⟨p,x0,x1,x2,x3,y0,y1,y2,s1,s2,s3,p1,p2,p3,hwf,hp⟩:=w4F (fun i hi=>Sl.cell1 (C:=codY) rfl (HS.out.fr0 HF.out) i hi rfl) (show 4 * i + 3 < l.length by have:=H64.out;omega) HB.out
   have HWF:=Lib.hid hwf
   have HP:=Lib.hid hp
   obtain ⟨n0,n1,n2,n3⟩:_ ∧ _ ∧ _ ∧ _:=⟨hwf.n0,hwf.n1,hwf.n2,hwf.n3⟩
   obtain ⟨j0,j1,j2,j3⟩:_ ∧ _ ∧ _ ∧ _:=⟨hwf.j0,hwf.j1,hwf.j2,hwf.j3⟩
   obtain ⟨k0,k1,k2,k3⟩:_ ∧ _ ∧ _ ∧ _:=⟨hwf.k0,hwf.k1,hwf.k2,hwf.k3⟩
   obtain ⟨v0,v1,v2⟩:_ ∧ _ ∧ _:=⟨hwf.v0,hwf.v1,hwf.v2⟩
   obtain ⟨o1,o2,o3⟩:_ ∧ _ ∧ _:=⟨hwf.o1,hwf.o2,hwf.o3⟩
   clear hwf hp hk hlt hi
   go_upto_region 4 with fail
   obtain ⟨F,hFd⟩:∃ F:World → Prop,F = fun w'=>w'.cell? ⟨g,off + p,none⟩ = some (.int .u8 (x0:Int)) ∧ w'.cell? ⟨g,off + p1,none⟩ = some (.int .u8 (x1:Int)) ∧ w'.cell? ⟨g,off + p2,none⟩ = some (.int .u8 (x2:Int)) ∧ w'.cell? ⟨g,off + p3,none⟩ = some (.int .u8 (x3:Int)):=⟨_,rfl⟩
   have fd:Fr noB wr wr.drew:=(Fr.refl noB wr).drew
   have hF0:F wr.drew:=by rw [hFd];exact ⟨cell_fr0 HWF.out.c0 fd,cell_fr0 HWF.out.c1 fd,cell_fr0 HWF.out.c2 fd,cell_fr0 HWF.out.c3 fd⟩
   have q0:∀ i:Wd F,i.w.cell? ⟨g,off + p,none⟩ = some (.int .u8 (x0:Int)):=fun i=>(cast (congrFun hFd i.w) i.h).1
   have q1:∀ i:Wd F,i.w.cell? ⟨g,off + p1,none⟩ = some (.int .u8 (x1:Int)):=fun i=>(cast (congrFun hFd i.w) i.h).2.1
   have q2:∀ i:Wd F,i.w.cell? ⟨g,off + p2,none⟩ = some (.int .u8 (x2:Int)):=fun i=>(cast (congrFun hFd i.w) i.h).2.2.1
   have q3:∀ i:Wd F,i.w.cell? ⟨g,off + p3,none⟩ = some (.int .u8 (x3:Int)):=fun i=>(cast (congrFun hFd i.w) i.h).2.2.2
   have HF4:=Lib.hid (HF.out.step0 fd)
   have hbw4:=HBW.out.fr fd (by simp [noB])
   have HB4:=Lib.hid hbw4
   have z1:=rowZ_at hbw4 i (w16H_len _ _ _)
   have z2:=hbw4.frozen i
   clear fd hFd hbw4
   refine wp_region_M 35 36 [⟨8388608,128,0⟩,⟨16777216,2,0⟩,⟨33554432,128,0⟩,⟨67108864,33554432,4⟩,⟨134217728,83886080,10⟩,⟨268435456,134217728,16⟩,⟨536870912,268435456,32⟩,⟨1073741824,536870912,64⟩,⟨2147483648,2,0⟩,⟨4294967296,128,0⟩,⟨8589934592,4294967296,512⟩,⟨17179869184,8589934592,1024⟩,⟨34359738368,19327352832,2304⟩,⟨68719476736,34359738368,4096⟩,⟨137438953472,68719476736,8192⟩,⟨274877906944,137438953472,16384⟩,⟨549755813888,275951648768,32896⟩,⟨1099511627776,2,0⟩,⟨2199023255552,128,0⟩,⟨4398046511104,2199023255552,262144⟩,⟨8796093022208,4398046511104,524288⟩,⟨17592186044416,9895604649984,1179648⟩,⟨35184372088832,17592186044416,2097152⟩,⟨70368744177664,35184372088832,4194304⟩,⟨140737488355328,70368744177664,8388608⟩,⟨281474976710656,141287244169216,16842752⟩,⟨562949953421312,2,0⟩,⟨1125899906842624,128,0⟩,⟨2251799813685248,1125899906842624,134217728⟩,⟨4503599627370496,2251799813685248,268435456⟩,⟨9007199254740992,5066549580791808,603979776⟩,⟨18014398509481984,9007199254740992,1073741824⟩,⟨36028797018963968,18014398509481984,2147483648⟩,⟨72057594037927936,36310271995674624,4328521728⟩,⟨144115188075855872,8388672,17179869183⟩,⟨0,216172782113783808,34359738367⟩] [(true,0),(true,1),(true,2),(true,3),(true,4),(true,5),(true,6),(true,7),(true,8),(true,9),(true,10),(true,11),(true,12),(true,13),(true,14),(true,15),(true,16),(true,17),(true,18),(true,19),(true,20),(true,21),(true,22),(true,23),(true,24),(true,25),(true,26),(true,27),(true,28),(true,29),(true,30),(true,31),(true,32),(true,33),(true,34)] F (by kernel_rfl) rfl (by kernel_rfl) (by kernel_rfl) (by kernel_rfl) hF0 (fun hA hF=>?_)
   clear hF0
   generalize wr.drew = wd at hF HF4 HB4 z1 z2 ⊢
   have NE:=Wd.ne hF
   refine wpAnyS_takes (s2:=[]) (fuel:=1) (fun d v c a w h=>by cases d <;> exact h) hF [0,1,2,3,4,5,6,7,8,9,10,11,12,13,14,15,16,17,18,19,20,21,22,23,24,25,26,27,28,29,30,31,32,33,34] hA ?_
   repeat (refine wpTakes_at (by rfl) (by rfl) ?_;go_big_quiet_step (fail);refine wpQuiet_nil ?_)
   refine wpTakes_nil ?_
   clear NE
   intro hA
   refine wpAnyS_end hA rfl ?_
   simp only [List.drop_succ_cons,List.drop_zero]
   clear hF q0 q1 q2 q3 n0 n1 n2 n3 j0 j1 j2 j3 k0 k1 k2 k3 v0 v1 v2 o1 o2 o3
   have HB5:=Lib.hid (HB4.out.set i (.int .u32 (s3:Int)))
   have HF5:=Lib.hid (HF4.out.setCell (p:=⟨W,i,none⟩) (fun hh=>by have:=HW.out;simp only at hh;omega) (.int .u32 (s3:Int)))
   go_wp2_with fail
   have wk:wrap64 ((i:Int) + 1) = (i:Int) + 1:=IntWalk.wrap64_in _ (by have:=HIL.out;omega)
   go_roundg (16 - (i + 1))
   case measure=>have:=HIL.out;omega
   case rel=>exact ⟨i + 1,by first | exact congrArg (Value.int .i64) wk | simp,rfl,by have:=HIL.out;omega,by
    have h1:=HB5.out
    rw [rowU_set] at h1
    have h2:=rowZ_set (w16H l 0 i) k s3
    rw [w16H_len] at h2
    rw [h2] at h1
    rw [HIL.out.2]
    have h3:w16H l 0 (i + 1) = w16H l 0 i ++ [s3]:=by rw [w16H,← HWF.out.hw,HP.out,Nat.zero_add]
    rw [h3]
    exact h1,HF5.out⟩
  ·have i1:¬ (i:Int) < 16:=by omega
   obtain rfl:i = 16:=by omega
   have H0:=Lib.hid (show ∃ (i:Nat) (m:List Nat),(Value.int .i64 16) = .int .i64 (i:Int) ∧ 64 - 16 = 64 - i ∧ 16 ≤ i ∧ i ≤ 64 ∧ m.length = i ∧ exH 48 16 (w16H l 0 16) = exH (64 - i) i m ∧ Blk wr W 103 (codU.row (rowZu m (64 - i))) ∧ Lt32 m ∧ Fr noB w wr from ⟨16,w16H l 0 16,rfl,rfl,Nat.le_refl _,by omega,w16H_len _ _ _,rfl,HBW.out,w16H_lt _ _ _,HF.out⟩)
   clear HBW HF hlt hi
   go_wp2_with fail
   go_loopg [8] (64 - 16) (fun gk iv wr=>∃ (i:Nat) (m:List Nat),iv = .int .i64 (i:Int) ∧ gk = 64 - i ∧ 16 ≤ i ∧ i ≤ 64 ∧ m.length = i ∧ exH 48 16 (w16H l 0 16) = exH (64 - i) i m ∧ Blk wr W 103 (codU.row (rowZu m (64 - i))) ∧ Lt32 m ∧ Fr noB w wr)
   case atStart=>exact H0.out
   case round =>
    clear H0 i1
    obtain ⟨i,m,rfl,rfl,hi1,hi,hml,hex,hbw,hm32,hf⟩:=hrel
    have HBW:=Lib.hid hbw
    have HF:=Lib.hid hf
    have HM:=Lib.hid hm32
    have HML:=Lib.hid hml
    have HEX:=Lib.hid hex
    clear hbw hf hm32 hml hex
    by_cases hlt:i < 64
    ·have i1:(i:Int) < 64:=by omega
     obtain ⟨k,hk⟩:∃ k,64 - i = k + 1:=⟨63 - i,by omega⟩
     have HIB:=Lib.hid (show 16 ≤ i ∧ i < 64 ∧ 64 - (i + 1) = k by omega)
     rw [hk] at HBW
     obtain ⟨j,x,r1,r2,d,y,e,hs⟩:=sgF (G:=g0H) (k:=15) (n1:=7) (n2:=18) (s:=8) (fun _=>rfl) (rowZ_get HBW.out) HM.out HML.out.symm ⟨by omega,by omega⟩ (by omega)
     obtain ⟨j',x',r1',r2',d',y',e',hs'⟩:=sgF (G:=g1H) (k:=2) (n1:=17) (n2:=19) (s:=1024) (fun _=>rfl) (rowZ_get HBW.out) HM.out HML.out.symm ⟨by omega,by omega⟩ (by omega)
     have HG:=Lib.hid hs
     have HG':=Lib.hid hs'
     have n1:IntKind.i64.wrap ((i:Int) - 15) = (j:Int):=hs.n
     have n2:IntKind.i64.wrap ((i:Int) - 2) = (j':Int):=hs'.n
     have c1:wr.cell? ⟨W,j,none⟩ = some (.int .u32 (x:Int)):=by simpa using hs.c
     have c2:wr.cell? ⟨W,j',none⟩ = some (.int .u32 (x':Int)):=by simpa using hs'.c
     have j1:(j:Int) < 64:=by have:=hs.j0;have:=HML.out;omega
     have j2:(j':Int) < 64:=by have:=hs'.j0;have:=HML.out;omega
     clear hs hs' hk hlt hi1 hi
     go_upto_region 9 with fail
     go_quiet (fail)
     clear c1 c2 n1 n2 j1 j2
     have fq:Fr noB wr (wr.drewN nq):=(Fr.refl noB wr).drewN nq
     have HF4:=Lib.hid (HF.out.step0 fq)
     have HB4:=Lib.hid (HBW.out.fr fq (by simp [noB]))
     clear fq HF HBW
     generalize wr.drewN nq = wq at HF4 HB4 ⊢
     have h1:=HG.out.h1
     have h2:(x:Int) / 8 = (y:Int):=HG.out.h2
     have h3:=HG.out.h3
     have R7:∀ W,Calls Try.prog 60 #[.int .u32 (x:Int),.int .i64 (-7)] W (fun e w'=>e = .returned (.int .u32 (r1:Int)) ∧ w' = W):=fun W=>rotl_7 W HG.out.lt HG.out.e1
     have R18:∀ W,Calls Try.prog 60 #[.int .u32 (x:Int),.int .i64 (-18)] W (fun e w'=>e = .returned (.int .u32 (r2:Int)) ∧ w' = W):=fun W=>rotl_18 W HG.out.lt HG.out.e2
     go_upto_region 11 with (go_at_call 60;(first | with_reducible refine (R7 _).mono ?_ | with_reducible refine (R18 _).mono ?_);rintro e w8 ⟨rfl,h8⟩;replace h8:=h8.symm;subst h8)
     clear h1 h2 h3 R7 R18
     have h1:=HG'.out.h1
     have h2:(x':Int) / 1024 = (y':Int):=HG'.out.h2
     have h3:=HG'.out.h3
     have R7:∀ W,Calls Try.prog 60 #[.int .u32 (x':Int),.int .i64 (-17)] W (fun e w'=>e = .returned (.int .u32 (r1':Int)) ∧ w' = W):=fun W=>rotl_17 W HG'.out.lt HG'.out.e1
     have R18:∀ W,Calls Try.prog 60 #[.int .u32 (x':Int),.int .i64 (-19)] W (fun e w'=>e = .returned (.int .u32 (r2':Int)) ∧ w' = W):=fun W=>rotl_19 W HG'.out.lt HG'.out.e2
     go_upto_region 12 with (go_at_call 60;(first | with_reducible refine (R7 _).mono ?_ | with_reducible refine (R18 _).mono ?_);rintro e w8 ⟨rfl,h8⟩;replace h8:=h8.symm;subst h8)
     clear h1 h2 h3 R7 R18
     have fd:Fr noB wq wq.drew:=(Fr.refl noB wq).drew
     have hbw5:=HB4.out.fr fd (by simp [noB])
     obtain ⟨ja,jb,xa,xb,s1,s2,s3,hs⟩:=s3F (e:=e) (e':=e') (rowZ_sl hbw5) HM.out HML.out.symm HIB.out.1 HIB.out.2.1
     have HS3:=Lib.hid hs
     have n1:IntKind.i64.wrap ((i:Int) - 7) = (ja:Int):=hs.n1
     have n2:IntKind.i64.wrap ((i:Int) - 16) = (jb:Int):=hs.n2
     have j1:(ja:Int) < 64:=by have:=hs.j1;have:=HML.out;have:=HIB.out.2.1;omega
     have j2:(jb:Int) < 64:=by have:=hs.j2;have:=HML.out;have:=HIB.out.2.1;omega
     obtain ⟨u1,u2,u3⟩:_ ∧ _ ∧ _:=⟨hs.u1,hs.u2,hs.u3⟩
     obtain ⟨F,hFd⟩:∃ F:World → Prop,F = fun w'=>w'.cell? ⟨W,ja,none⟩ = some (.int .u32 (xa:Int)) ∧ w'.cell? ⟨W,jb,none⟩ = some (.int .u32 (xb:Int)):=⟨_,rfl⟩
     have hF0:F wq.drew:=by rw [hFd];exact ⟨by simpa using hs.c1,by simpa using hs.c2⟩
     have q0:∀ i:Wd F,i.w.cell? ⟨W,ja,none⟩ = some (.int .u32 (xa:Int)):=fun i=>(cast (congrFun hFd i.w) i.h).1
     have q1:∀ i:Wd F,i.w.cell? ⟨W,jb,none⟩ = some (.int .u32 (xb:Int)):=fun i=>(cast (congrFun hFd i.w) i.h).2
     have HF5:=Lib.hid (HF4.out.step0 fd)
     have HB5:=Lib.hid hbw5
     have z1:=rowZ_at hbw5 i HML.out
     have z2:=hbw5.frozen i
     clear fd hFd hs hbw5 HF4 HB4
     refine wp_region_M 15 16 [⟨154742504910672534362390528,256,0⟩,⟨309485009821345068724781056,4096,0⟩,⟨618970019642690137449562112,256,0⟩,⟨1237940039285380274899124224,618970019642690137449562112,4⟩,⟨2475880078570760549798248448,1237940039285380274899124288,8⟩,⟨4951760157141521099596496896,2475880078570760549798248448,16⟩,⟨9903520314283042199192993792,5261245166962866168321277952,34⟩,⟨19807040628566084398385987584,2048,0⟩,⟨39614081257132168796771975168,29710560942849126597578981376,192⟩,⟨79228162514264337593543950336,256,0⟩,⟨158456325028528675187087900672,79228162514264337593543950336,512⟩,⟨316912650057057350374175801344,158456325028528675187087900736,1024⟩,⟨633825300114114700748351602688,316912650057057350374175801344,2048⟩,⟨1267650600228229401496703205376,673439381371246869545123577856,4352⟩,⟨2535301200456458802993406410752,154742504910672534362390592,16383⟩,⟨0,3802951800684688204490109616128,32767⟩] [(true,0),(true,1),(true,2),(true,3),(true,4),(true,5),(true,6),(true,7),(true,8),(true,9),(true,10),(true,11),(true,12),(true,13),(true,14)] F (by kernel_rfl) rfl (by kernel_rfl) (by kernel_rfl) (by kernel_rfl) hF0 (fun hA hF=>?_)
     clear hF0
     generalize wq.drew = wd at hF HF5 HB5 z1 z2 ⊢
     have NE:=Wd.ne hF
     refine wpAnyS_takes (s2:=[]) (fuel:=1) (fun d v c a w h=>by cases d <;> exact h) hF [0,1,2,3,4,5,6,7,8,9,10,11,12,13,14] hA ?_
     repeat (refine wpTakes_at (by rfl) (by rfl) ?_;go_big_quiet_step (fail);refine wpQuiet_nil ?_)
     refine wpTakes_nil ?_
     clear NE
     intro hA
     refine wpAnyS_end hA rfl ?_
     simp only [List.drop_succ_cons,List.drop_zero]
     clear hF q0 q1 n1 n2 j1 j2 u1 u2 u3
     have HB6:=Lib.hid (HB5.out.set i (.int .u32 (s3:Int)))
     have HF6:=Lib.hid (HF5.out.setCell (p:=⟨W,i,none⟩) (fun hh=>by have:=HW.out;simp only at hh;omega) (.int .u32 (s3:Int)))
     have HNX:=Lib.hid (show nxH m i = s3 by
      have e0:g0H (m.getD (i - 15) 0) = e:=by have:=HG.out.r;rw [HG.out.ej] at this;exact this
      have e1:g1H (m.getD (i - 2) 0) = e':=by have:=HG'.out.r;rw [HG'.out.ej] at this;exact this
      have:=HS3.out.r
      rw [← e0,← e1] at this
      exact this)
     go_wp2_with fail
     have wk:wrap64 ((i:Int) + 1) = (i:Int) + 1:=IntWalk.wrap64_in _ (by have:=HIB.out;omega)
     go_roundg (64 - (i + 1))
     case measure=>have:=HIB.out;omega
     case rel=>exact ⟨i + 1,m ++ [s3],by first | exact congrArg (Value.int .i64) wk | simp,rfl,by have:=HIB.out;omega,by have:=HIB.out;omega,by rw [List.length_append,HML.out];rfl,by rw [HEX.out,← HNX.out,exH_step HIB.out.2.1],by
      have h1:=HB6.out
      rw [rowU_set] at h1
      have h2:=rowZ_set m k s3
      rw [HML.out] at h2
      rw [h2] at h1
      rw [HIB.out.2.2]
      exact h1,HM.out.snoc HS3.out.lt,HF6.out⟩
    ·have i1:¬ (i:Int) < 64:=by omega
     obtain rfl:i = 64:=by omega
     have HWS:=Lib.hid (show exH 48 16 (w16H l 0 16) = m from HEX.out)
     obtain ⟨V,hV⟩:∃ V,V = wr.heap.size:=⟨_,rfl⟩
     have HV:=Lib.hid hV
     have HVW:=Lib.hid (show W < V ∧ w.heap.size ≤ V ∧ S < V ∧ K < V by have:=HBW.out.lt;have:=HF.out.size;have:=HSl.out;have:=HKl.out;omega)
     have hsb:=HSB.out.fr HF.out (by simp [noB])
     obtain ⟨h0,h1,h2,h3,h4,h5,h6,h7,hh⟩:=len8 HL8.out
     have HH:=Lib.hid hh
     have HSB4:=Lib.hid hsb
     rw [hh] at hsb
     have c0:wr.cell? ⟨S,0,none⟩ = some (.int .u32 (h0:Int)):=hsb.cell 0
     have c1:wr.cell? ⟨S,1,none⟩ = some (.int .u32 (h1:Int)):=hsb.cell 1
     have c2:wr.cell? ⟨S,2,none⟩ = some (.int .u32 (h2:Int)):=hsb.cell 2
     have c3:wr.cell? ⟨S,3,none⟩ = some (.int .u32 (h3:Int)):=hsb.cell 3
     have c4:wr.cell? ⟨S,4,none⟩ = some (.int .u32 (h4:Int)):=hsb.cell 4
     have c5:wr.cell? ⟨S,5,none⟩ = some (.int .u32 (h5:Int)):=hsb.cell 5
     have c6:wr.cell? ⟨S,6,none⟩ = some (.int .u32 (h6:Int)):=hsb.cell 6
     have c7:wr.cell? ⟨S,7,none⟩ = some (.int .u32 (h7:Int)):=hsb.cell 7
     have H0:=Lib.hid (show ∀ w1:World,w1 = wr.alloc (.cells (codU.row [h0,h1,h2,h3,h4,h5,h6,h7]).toArray 69) → ∃ (i:Nat) (s:S8H),Value.int .i64 0 = .int .i64 (i:Int) ∧ 64 = 64 - i ∧ i ≤ 64 ∧ Lt8 s ∧ rsH 64 0 rdsH m (s8H h) = rsH (64 - i) i rdsH m s ∧ Blk w1 V 69 (codU.row (s8L s)) ∧ Blk w1 W 103 (codU.row m) ∧ Fr noB w w1 from fun w1 e=>by
      have hw:Blk wr W 103 (codU.row m):=by have:=HBW.out;rw [show (64:Nat) - 64 = 0 from rfl] at this;unfold rowZu at this;rwa [show List.replicate 0 0 = ([]:List Nat) from rfl,List.append_nil] at this
      have e2:s8L (s8H h) = [h0,h1,h2,h3,h4,h5,h6,h7]:=by rw [s8H_L HL8.out];exact hh
      subst e
      refine ⟨0,s8H h,rfl,rfl,by omega,s8H_lt HL8.out HL32.out,rfl,?_,hw.alloc _,HF.out.alloc _⟩
      rw [e2,hV]
      exact Blk.new wr _ _)
     clear hsb hh hi hi1 hlt HBW HF
     go_upto_region 14 with fail
     rw [← hV]
     clear c0 c1 c2 c3 c4 c5 c6 c7 hV i1
     go_wp2_with fail
     go_loopg [105] 64 (fun gk iv wr=>∃ (i:Nat) (s:S8H),iv = .int .i64 (i:Int) ∧ gk = 64 - i ∧ i ≤ 64 ∧ Lt8 s ∧ rsH 64 0 rdsH m (s8H h) = rsH (64 - i) i rdsH m s ∧ Blk wr V 69 (codU.row (s8L s)) ∧ Blk wr W 103 (codU.row m) ∧ Fr noB w wr)
     case atStart=>exact H0.out _ rfl
     case round =>
      clear H0 HSB4
      obtain ⟨i,s,rfl,rfl,hi,hl8,hex,hbv,hbw,hf⟩:=hrel
      have HBW:=Lib.hid hbw
      have HBV:=Lib.hid hbv
      have HF:=Lib.hid hf
      have HL:=Lib.hid hl8
      have HEX3:=Lib.hid hex
      clear hl8 hex
      by_cases hlt:i < 64
      ·have i1:(i:Int) < 64:=by omega
       have HIL:=Lib.hid hlt
       have l1:i < rdsH.length:=hlt
       have l2:i < m.length:=by rw [HML.out];exact hlt
       obtain ⟨kk,hkk⟩:∃ kk,kk = rdsH[i]:=⟨_,rfl⟩
       obtain ⟨ww,hww⟩:∃ ww,ww = m[i]:=⟨_,rfl⟩
       have HKW:=Lib.hid (show rdsH.getD i 0 = kk ∧ m.getD i 0 = ww by rw [hkk,hww,getD_at l1,getD_at l2];exact ⟨rfl,rfl⟩)
       have ck:=rowU_cell (HKB.out.fr hf (by simp [noB])) i l1
       have cw:=rowU_cell hbw i l2
       rw [← hkk] at ck
       rw [← hww] at cw
       have c0:wr.cell? ⟨V,0,none⟩ = some (.int .u32 (s.a:Int)):=hbv.cell 0
       have c4:wr.cell? ⟨V,4,none⟩ = some (.int .u32 (s.e:Int)):=hbv.cell 4
       clear hkk hww l1 l2 hbw hbv hf hlt hi
       go_upto_region 17 with fail
       go_quiet (fail)
       have fq:Fr noB wr (wr.drewN nq):=(Fr.refl noB wr).drewN nq
       have HF4:=Lib.hid (HF.out.step0 fq)
       have hbv:=HBV.out.fr fq (by simp [noB])
       have HBV4:=Lib.hid hbv
       have HBW4:=Lib.hid (HBW.out.fr fq (by simp [noB]))
       replace ck:=cell_fr0 ck fq
       replace cw:=cell_fr0 cw fq
       clear c0 c4 fq HF HBV HBW
       generalize wr.drewN nq = wq at HF4 hbv HBV4 HBW4 ck cw ⊢
       have c5:wq.cell? ⟨V,5,none⟩ = some (.int .u32 (s.f:Int)):=hbv.cell 5
       have c6:wq.cell? ⟨V,6,none⟩ = some (.int .u32 (s.g:Int)):=hbv.cell 6
       have c7:wq.cell? ⟨V,7,none⟩ = some (.int .u32 (s.x:Int)):=hbv.cell 7
       clear hbv
       obtain ⟨x2,s1,m1,ne,m2,ch,s2,s3,s4,ht1⟩:=t1G HL.out kk ww
       have HT1:=Lib.hid ht1
       have R6:∀ W,Calls Try.prog 61 #[.int .u32 (s.e:Int),.int .i64 6,.int .i64 11,.int .i64 25] W (fun e w'=>e = .returned (.int .u32 (x2:Int)) ∧ w' = W):=fun W=>turn_6 W HL.out.e HT1.out.e
       obtain ⟨u1,b3,b4,b5⟩:_ ∧ _ ∧ _ ∧ _:=⟨ht1.u1,ht1.b3,ht1.b4,ht1.b5⟩
       obtain ⟨b6,u2,u3,u4⟩:_ ∧ _ ∧ _ ∧ _:=⟨ht1.b6,ht1.u2,ht1.u3,ht1.u4⟩
       clear ht1
       go_upto_region 18 with fail
       go_quiet ((go_at_call 61;exact Calls.quiet_of_same (R6 _)))
       have fq:Fr noB wq (wq.drewN nq):=(Fr.refl noB wq).drewN nq
       have HF5:=Lib.hid (HF4.out.step0 fq)
       have hbv:=HBV4.out.fr fq (by simp [noB])
       have HBV5:=Lib.hid hbv
       have HBW5:=Lib.hid (HBW4.out.fr fq (by simp [noB]))
       clear c5 c6 c7 ck cw R6 u1 b3 b4 b5 b6 u2 u3 u4 fq HF4 HBV4 HBW4
       generalize wq.drewN nq = wp at HF5 hbv HBV5 HBW5 ⊢
       have c1:wp.cell? ⟨V,1,none⟩ = some (.int .u32 (s.b:Int)):=hbv.cell 1
       have c2:wp.cell? ⟨V,2,none⟩ = some (.int .u32 (s.c:Int)):=hbv.cell 2
       clear hbv
       obtain ⟨y2,p1,p2,q1,p3,q2,t2,ht2⟩:=t2G HL.out
       have HT2:=Lib.hid ht2
       have R2:∀ W,Calls Try.prog 61 #[.int .u32 (s.a:Int),.int .i64 2,.int .i64 13,.int .i64 22] W (fun e w'=>e = .returned (.int .u32 (y2:Int)) ∧ w' = W):=fun W=>turn_2 W HL.out.a HT2.out.e
       obtain ⟨b3,b4,b5⟩:_ ∧ _ ∧ _:=⟨ht2.b3,ht2.b4,ht2.b5⟩
       obtain ⟨b6,b7,u1⟩:_ ∧ _ ∧ _:=⟨ht2.b6,ht2.b7,ht2.u1⟩
       clear ht2
       go_upto_region 19 with fail
       go_quiet ((go_at_call 61;exact Calls.quiet_of_same (R2 _)))
       have fq:Fr noB wp (wp.drewN nq):=(Fr.refl noB wp).drewN nq
       have HF6:=Lib.hid (HF5.out.step0 fq)
       have HBV6:=Lib.hid (HBV5.out.fr fq (by simp [noB]))
       have HBW6:=Lib.hid (HBW5.out.fr fq (by simp [noB]))
       clear c1 c2 R2 b3 b4 b5 b6 b7 u1 fq HF5 HBV5 HBW5
       generalize wp.drewN nq = wo at HF6 HBV6 HBW6 ⊢
       go_upto_region 20 with fail
       have fd:Fr noB wo wo.drew:=(Fr.refl noB wo).drew
       obtain ⟨W2,hcp,hv2,hf2⟩:=copy8 s (HBV6.out.fr fd (by simp [noB]))
       have HV2:=Lib.hid hv2
       have HW2:=Lib.hid ((HBW6.out.fr fd (by simp [noB])).fr hf2 (fun e=>by have e:W = V:=e;have:=HVW.out;omega))
       have HF2:=Lib.hid ((HF6.out.step0 fd).trans hf2 (fun b hb e=>by have e:b = V:=e;have:=HVW.out;omega))
       obtain ⟨F,hFd⟩:∃ F:World → Prop,F = fun w'=>True:=⟨_,rfl⟩
       have hF0:F wo.drew:=by rw [hFd];trivial
       clear fd hFd hv2 hf2 HF6 HBV6 HBW6
       refine wp_region_M 2 3 [⟨91343852333181432387730302044767688728495783936,8192,0⟩,⟨182687704666362864775460604089535377456991567872,8192,0⟩,⟨365375409332725729550921208179070754913983135744,274031556999544297163190906134303066185487351808,3⟩] [(true,0),(true,1)] F (by kernel_rfl) rfl (by kernel_rfl) (by kernel_rfl) (by kernel_rfl) hF0 (fun hA hF=>?_)
       clear hF0
       generalize wo.drew = wd at hF hcp ⊢
       have NE:=Wd.ne hF
       refine wpAnyS_takes (s2:=[]) (fuel:=1) (fun d v c a w h=>by cases d <;> exact h) hF [0,1] hA ?_
       repeat (refine wpTakes_at (by rfl) (by rfl) ?_;go_big_quiet_step (fail);refine wpQuiet_nil ?_)
       refine wpTakes_nil ?_
       clear NE
       intro hA
       refine wpAnyS_end hA rfl ?_
       simp only [List.drop_succ_cons,List.drop_zero]
       clear hF
       go_upto_region 21 with fail
       clear hcp
       have c4:W2.cell? ⟨V,4,none⟩ = some (.int .u32 (s.d:Int)):=HV2.out.cell 4
       have f4:=HV2.out.frozen 4
       have e1:((s.d:Int) + (s4:Int)) % 4294967296 = ((a32H s.d s4:Nat):Int):=by rw [← wrU];exact a32_int _ _
       have e2:((s4:Int) + (t2:Int)) % 4294967296 = ((a32H s4 t2:Nat):Int):=by rw [← wrU];exact a32_int _ _
       have hv3:=HV2.out.set 4 (.int .u32 ((a32H s.d s4:Nat):Int))
       have HV3:=Lib.hid hv3
       have HW3:=Lib.hid (HW2.out.far (p:=⟨V,4,none⟩) (show W ≠ V by have:=HVW.out;omega) (.int .u32 ((a32H s.d s4:Nat):Int)))
       have HF3:=Lib.hid (HF2.out.setCell (p:=⟨V,4,none⟩) (fun hh=>by have:=HVW.out;simp only at hh;omega) (.int .u32 ((a32H s.d s4:Nat):Int)))
       have z0:=hv3.cell 0
       have f0:=hv3.frozen 0
       have z0:(W2.setCell ⟨V,4,none⟩ (.int .u32 ((a32H s.d s4:Nat):Int))).cell? ⟨V,0,none⟩ = some (.int .u32 (s.a:Int)):=z0
       clear hv3
       go_upto_region 22 with fail
       rw [e1]
       clear e1 c4 f4 HV2 HW2 HF2
       generalize W2.setCell ⟨V,4,none⟩ (.int .u32 ((a32H s.d s4:Nat):Int)) = W3 at HV3 HW3 HF3 z0 f0 ⊢
       have HV4:=Lib.hid (HV3.out.set 0 (.int .u32 ((a32H s4 t2:Nat):Int)))
       have HW4:=Lib.hid (HW3.out.far (p:=⟨V,0,none⟩) (show W ≠ V by have:=HVW.out;omega) (.int .u32 ((a32H s4 t2:Nat):Int)))
       have HF4:=Lib.hid (HF3.out.setCell (p:=⟨V,0,none⟩) (fun hh=>by have:=HVW.out;simp only at hh;omega) (.int .u32 ((a32H s4 t2:Nat):Int)))
       go_upto_region 23 with fail
       rw [e2]
       clear e2 z0 f0
       generalize W3.setCell ⟨V,0,none⟩ (.int .u32 ((a32H s4 t2:Nat):Int)) = W4 at HV4 HW4 HF4 ⊢
       go_wp2_with fail
       have wk:wrap64 ((i:Int) + 1) = (i:Int) + 1:=IntWalk.wrap64_in _ (by have:=HIL.out;omega)
       go_roundg (64 - (i + 1))
       case measure=>have:=HIL.out;omega
       case rel=>exact ⟨i + 1,rdH s kk ww,by first | exact congrArg (Value.int .i64) wk | simp,rfl,by have:=HIL.out;omega,HL.out.rd _ _,by rw [HEX3.out,rsH_step HIL.out,HKW.out.1,HKW.out.2],by
        have h1:=HV4.out
        have h2:s8L (rdH s kk ww) = [a32H s4 t2,s.a,s.b,s.c,a32H s.d s4,s.e,s.f,s.g]:=by unfold s8L rdH;rw [HT1.out.r,HT2.out.r]
        rw [h2]
        exact h1,HW4.out,HF4.out⟩
      ·have i1:¬ (i:Int) < 64:=by omega
       obtain rfl:i = 64:=by omega
       have HBK:=Lib.hid (show bkH rdsH l 0 h = adH h s by
        have h1:rsH 64 0 rdsH m (s8H h) = s:=HEX3.out
        unfold bkH
        rw [HWS.out,h1])
       have hsb:=HSB.out.fr hf (by simp [noB])
       have H0:=Lib.hid (show ∃ i:Nat,Value.int .i64 0 = .int .i64 (i:Int) ∧ 8 = 8 - i ∧ i ≤ 8 ∧ Blk wr S 69 (codU.row (mixR h (adH h s) i)) ∧ Blk wr V 69 (codU.row (s8L s)) ∧ Fr (oneB S) w wr from ⟨0,rfl,rfl,by omega,hsb,hbv,hf.any⟩)
       clear hsb hbv hbw hf hlt hi HBW HBV HF
       go_wp2_with fail
       go_loopg [169] 8 (fun gk iv wr=>∃ i:Nat,iv = .int .i64 (i:Int) ∧ gk = 8 - i ∧ i ≤ 8 ∧ Blk wr S 69 (codU.row (mixR h (adH h s) i)) ∧ Blk wr V 69 (codU.row (s8L s)) ∧ Fr (oneB S) w wr)
       case atStart=>exact H0.out
       case round =>
        clear H0 i1
        obtain ⟨i,rfl,rfl,hi,hbs,hbv,hf⟩:=hrel
        have HBV:=Lib.hid hbv
        have HBS:=Lib.hid hbs
        have HF:=Lib.hid hf
        by_cases hlt:i < 8
        ·have i1:(i:Int) < 8:=by omega
         have HIL:=Lib.hid hlt
         have hml:(mixR h (adH h s) i).length = 8:=by rw [mixR_len (by rw [HL8.out,adH_len]) (by rw [adH_len];omega),adH_len]
         obtain ⟨x,hx⟩:∃ x,x = h[i]'(by rw [HL8.out];exact hlt):=⟨_,rfl⟩
         obtain ⟨y,hy⟩:∃ y,y = (s8L s)[i]'(by rw [s8L_len];exact hlt):=⟨_,rfl⟩
         have HXY:=Lib.hid (show (adH h s)[i]'(by rw [adH_len];exact HIL.out) = a32H x y by rw [adH_at HL8.out s hlt,hx,hy])
         have cx:=rowU_cell hbs i (by rw [hml];exact hlt)
         rw [mixR_at (by rw [HL8.out,adH_len]) (by rw [adH_len];exact hlt),← hx] at cx
         have cy:=rowU_cell hbv i (by rw [s8L_len];exact hlt)
         rw [← hy] at cy
         have u1:=a32_int x y
         obtain ⟨F,hFd⟩:∃ F:World → Prop,F = fun w'=>w'.cell? ⟨S,i,none⟩ = some (.int .u32 (x:Int)) ∧ w'.cell? ⟨V,i,none⟩ = some (.int .u32 (y:Int)):=⟨_,rfl⟩
         have fd:Fr noB wr wr.drew:=(Fr.refl noB wr).drew
         have hF0:F wr.drew:=by rw [hFd];exact ⟨cell_fr0 cx fd,cell_fr0 cy fd⟩
         have q0:∀ i_1:Wd F,i_1.w.cell? ⟨S,i,none⟩ = some (.int .u32 (x:Int)):=fun i=>(cast (congrFun hFd i.w) i.h).1
         have q1:∀ i_1:Wd F,i_1.w.cell? ⟨V,i,none⟩ = some (.int .u32 (y:Int)):=fun i=>(cast (congrFun hFd i.w) i.h).2
         have HBV4:=Lib.hid (hbv.fr fd (by simp [noB]))
         have hbs4:=hbs.fr fd (by simp [noB])
         have HBS4:=Lib.hid hbs4
         have HF4:=Lib.hid (hf.step0 fd)
         have z1:=cell_fr0 cx fd
         have z2:=hbs4.frozen i
         clear hbs4 fd hFd hbs hbv hf hx hy cx cy hml hlt hi
         go_upto_region 27 with fail
         refine wp_region_M 11 12 [⟨5986310706507378352962293074805895248510699696029696,1,0⟩,⟨11972621413014756705924586149611790497021399392059392,524288,0⟩,⟨23945242826029513411849172299223580994042798784118784,5986310706507378352962293074805895248510699696029696,1⟩,⟨47890485652059026823698344598447161988085597568237568,35917864239044270117773758448835371491064198176178176,6⟩,⟨95780971304118053647396689196894323976171195136475136,47890485652059026823698344598447161988085597568237568,8⟩,⟨191561942608236107294793378393788647952342390272950272,524288,0⟩,⟨383123885216472214589586756787577295904684780545900544,191561942608236107294793378393788647952342390272958464,32⟩,⟨766247770432944429179173513575154591809369561091801088,383123885216472214589586756787577295904684780545900544,64⟩,⟨1532495540865888858358347027150309183618739122183602176,862028741737062482826570202772048915785540756228276224,144⟩,⟨3064991081731777716716694054300618367237478244367204352,5986310706507378352962293074805895248510699696029696,1⟩,⟨6129982163463555433433388108601236734474956488734408704,3076963703144792473422618640450230157734499643759263744,1023⟩,⟨0,7662477704329444291791735135751545918093695610918010880,1535⟩] [(true,0),(true,1),(true,2),(true,3),(true,4),(true,5),(true,6),(true,7),(true,8),(true,9),(true,10)] F (by kernel_rfl) rfl (by kernel_rfl) (by kernel_rfl) (by kernel_rfl) hF0 (fun hA hF=>?_)
         clear hF0
         generalize wr.drew = wd at hF HBV4 HBS4 HF4 z1 z2 ⊢
         have NE:=Wd.ne hF
         refine wpAnyS_takes (s2:=[]) (fuel:=1) (fun d v c a w h=>by cases d <;> exact h) hF [0,1,2,3,4,5,6,7,8,9,10] hA ?_
         repeat (refine wpTakes_at (by rfl) (by rfl) ?_;go_big_quiet_step (fail);refine wpQuiet_nil ?_)
         refine wpTakes_nil ?_
         clear NE
         intro hA
         refine wpAnyS_end hA rfl ?_
         simp only [List.drop_succ_cons,List.drop_zero]
         clear hF q0 q1 u1
         have HB5:=Lib.hid (HBS4.out.set i (.int .u32 ((a32H x y:Nat):Int)))
         have HV5:=Lib.hid (HBV4.out.far (p:=⟨S,i,none⟩) (show V ≠ S by have:=HVW.out;omega) (.int .u32 ((a32H x y:Nat):Int)))
         have HF5:=Lib.hid (HF4.out.setCell (p:=⟨S,i,none⟩) (fun _=>rfl) (.int .u32 ((a32H x y:Nat):Int)))
         go_wp2_with fail
         have wk:wrap64 ((i:Int) + 1) = (i:Int) + 1:=IntWalk.wrap64_in _ (by have:=HIL.out;omega)
         go_roundg (8 - (i + 1))
         case measure=>have:=HIL.out;omega
         case rel=>exact ⟨i + 1,by first | exact congrArg (Value.int .i64) wk | simp,rfl,by have:=HIL.out;omega,by
          have h1:=HB5.out
          have h3:(mixR h (adH h s) i).set i (a32H x y) = mixR h (adH h s) (i + 1):=by
           rw [← HXY.out]
           exact mixR_set (by rw [HL8.out,adH_len]) (by rw [adH_len];exact HIL.out)
          rw [rowU_set,h3] at h1
          exact h1,HV5.out,HF5.out⟩
        ·have i1:¬ (i:Int) < 8:=by omega
         obtain rfl:i = 8:=by omega
         have HR:=Lib.hid (show Blk wr S 69 (codU.row (adH h s)) by
          have h2:mixR h (adH h s) 8 = adH h s:=by
           unfold mixR
           rw [List.take_of_length_le (by rw [adH_len];exact Nat.le_refl _),List.drop_eq_nil_of_le (by rw [HL8.out];exact Nat.le_refl _),List.append_nil]
          rw [h2] at hbs
          exact hbs)
         clear hbs hbv hf hlt hi HBV HBS
         go_wp2_with fail
         go_end0
         refine ⟨rfl,?_,HF.out⟩
         rw [HBK.out]
         exact HR.out
end Go.Proofs.Ytahllkifmmjbdaa
