/- Walks: the stable sort of a row of structs: swapRange, rotate, insertionSort, symMerge, stable. (ex_ldR_at) Walks: the stable sort of a row of structs: symMerge, stable, SortStableFunc. (ex_ldR_at, Fr.sameR) Walks: the stable sort of a row of structs: symMerge in general; stable, SortStableFunc. (ex_ldR_at, Fr.sameR) Walks: the stable sort of a row of structs: stable, SortStableFunc. Walks: the stable sort of a row of structs: swapRange, rotate, insertionSort, symMerge, stable. (ex_ldO_at) Walks: the stable sort of a row of structs: symMerge, stable, SortStableFunc. (ex_ldO_at, Fr.sameO) -/
import Derived.Test.YtjpieiccpbcabaaGreatGvMKu
import Derived.Test.YtjpieiccpbcabaaGreatStabCKu
import Derived.Test.YtjpieiccpbcabaaGreatStabQKu
import Derived.Test.YtjpieiccpbcabaaGreatQFrKu
import Derived.Test.YtjpieiccpbcabaaGreatRegTKu
import Derived.Sort.WalkA
import Derived.Deep.LoopGhost
import Derived.Shelf.RegionOpenPlain
import Derived.Deep.Cut
import Derived.Test.YtjpieiccpbcabaaGreatGvFKu
set_option linter.unusedVariables false
set_option linter.unusedSimpArgs false
namespace Go.Proofs.YtjpieiccpbcabaaGreat
open Go.RowKit Go.Sort
instance:Inhabited RwW:=⟨zRwW⟩
def SortTo {α:Type} [Inhabited α] (C:Cod α) (p:α → Prop) (w0:World) (g:Nat) (cf:α → α → Int) (d:Array α) (a b:Nat) (e:Ending) (w':World):Prop :=
 e = .returned (.tuple #[]) ∧ ∃ d',SWF C p w0 g d' w' ∧ PermIn a b d d' ∧ SortedIn (ltC cf) a b d'
def StA {α:Type} [Inhabited α] (C:Cod α) (p:α → Prop) (w0:World) (g:Nat) (lt:α → α → Bool) (d:Array α) (N:Nat) (gk:Nat) (av bv:Value) (wr:World):Prop :=
 ∃ (q a b:Nat) (dk:Array α),av = .int .i64 (a:Int) ∧ bv = .int .i64 (b:Int) ∧ a = q * 20 ∧ b = (q + 1) * 20 ∧ gk = N - a ∧ a ≤ N ∧ dk.size = N ∧ PermIn 0 N d dk ∧ BlocksTo lt 20 (q * 20) dk ∧ SWF C p w0 g dk wr
def StB {α:Type} [Inhabited α] (C:Cod α) (p:α → Prop) (w0:World) (g:Nat) (lt:α → α → Bool) (d:Array α) (N:Nat) (gk:Nat) (kv:Value) (wr:World):Prop :=
 ∃ (k:Nat) (dk:Array α),kv = .int .i64 (k:Int) ∧ 0 < k ∧ k ≤ 2 * N + 20 ∧ gk = N - k ∧ dk.size = N ∧ PermIn 0 N d dk ∧ Blocks lt k N dk ∧ SWF C p w0 g dk wr
def StC {α:Type} [Inhabited α] (C:Cod α) (p:α → Prop) (w0:World) (g:Nat) (lt:α → α → Bool) (d:Array α) (N k:Nat) (gk:Nat) (av bv:Value) (wr:World):Prop :=
 ∃ (q a b:Nat) (dk:Array α),av = .int .i64 (a:Int) ∧ bv = .int .i64 (b:Int) ∧ a = q * (2 * k) ∧ b = (q + 1) * (2 * k) ∧ gk = N - a ∧ a ≤ N ∧ dk.size = N ∧ PermIn 0 N d dk ∧ Pairs lt k N q dk ∧ SWF C p w0 g dk wr
theorem perm_up {α:Type} [Inhabited α] {a b N:Nat} {d dk d':Array α} (h:PermIn 0 N d dk) (h':PermIn a b dk d') (hb:b ≤ N) (hs:dk.size = N):PermIn 0 N d d' :=
 permIn_trans d dk d' 0 N h (permIn_mono dk d' a b 0 N (Nat.zero_le _) hb (by rw [hs];exact Nat.le_refl _) h')
theorem Fr.sameO {w w':World} (f:Fr noB w w'):∀ b o,b < w.heap.size → codO.rd w' b o = codO.rd w b o:=fun b o h=>Cod.rd_keep (f.block b h (by simp [noB]))
set_option maxRecDepth 100000 in
set_option maxHeartbeats 2000000 in
theorem swrOp_any (p:OpW → Prop) (w0:World) (g c N:Nat) (d:Array OpW) (a b n:Nat) (w:World) (hN:d.size = N) (S:SWF codO p w0 g d w) (h1:a + n ≤ b) (h2:b + n ≤ N) (hb:N ≤ 140737488355328) (fv:Value) :
  Calls Tryz.prog 175 #[.slice (some ⟨g,0,none⟩) N c,.int .i64 a,.int .i64 b,.int .i64 n,fv] w fun e w'=>e = .returned (.tuple #[]) ∧ ∃ d',SWF codO p w0 g d' w' ∧ SwIn a b n d d':=by
 have HS:=Lib.hid S
 have HN:=Lib.hid hN
 clear S hN
 go_enter Tryz.func175,Tryz.ntmps175
 go_wp2_with fail
 go_loopg [10] n (fun gk iv wr=>SwpR codO p w0 g d a b n gk iv wr)
 case atStart=>exact ⟨0,d,rfl,by omega,by omega,HS.out,SwIn.zero a b d⟩
 case round =>
  obtain ⟨k,dk,rfl,rfl,hk,S1,I1⟩:=hrel
  have hdk:dk.size = N:=I1.size.trans HN.out
  have HS1:=Lib.hid S1
  have HI1:=Lib.hid I1
  clear S1 I1
  by_cases hlt:k < n
  ·have i1:(k:Int) < (n:Int):=by omega
   obtain ⟨iX,hIX⟩:∃ i:Nat,i = a + k:=⟨_,rfl⟩
   obtain ⟨jX,hJX⟩:∃ j:Nat,j = b + k:=⟨_,rfl⟩
   have hiX:iX < dk.size:=by omega
   have hjX:jX < dk.size:=by omega
   have wi:IntKind.i64.wrap ((a:Int) + (k:Int)) = (iX:Int):=by rw [IntKind.wrap_i64];omega
   have wj:IntKind.i64.wrap ((b:Int) + (k:Int)) = (jX:Int):=by rw [IntKind.wrap_i64];omega
   have ci:(iX:Int) < (N:Int):=by omega
   have cj:(jX:Int) < (N:Int):=by omega
   have i0:(0:Int) ≤ (iX:Int):=by omega
   have j0:(0:Int) ≤ (jX:Int):=by omega
   have HX:=Lib.hid (And.intro hIX hJX)
   clear hIX hJX
   have SI:=HS1.out.step ((Fr.refl noB wr).drew)
   obtain ⟨s1,s2,S2⟩:=SI.swp okO (i:=iX) (j:=jX) hiX hjX
   have r1:=SI.rd iX hiX
   have r2:=SI.rd jX hjX
   generalize dk[iX]! = xi at r1 s2 S2
   generalize dk[jX]! = xj at r2 s1 s2 S2
   generalize hW1:wr.drew.setCells g (iX * codO.n) (codO.cs xj) = W1 at s1 s2 S2
   generalize hW2:W1.setCells g (jX * codO.n) (codO.cs xi) = W2 at s2 S2
   clear hW1 hW2
   replace s1:codO.stR wr.drew (.pointer (some ⟨g,iX * 41,none⟩)) (.agg (codO.A xj)) = .ok .skip W1:=s1
   replace s2:codO.stR W1 (.pointer (some ⟨g,jX * 41,none⟩)) (.agg (codO.A xi)) = .ok .skip W2:=s2
   replace r1:codO.rd wr.drew g (iX * 41) = some xi:=r1
   replace r2:codO.rd wr.drew g (jX * 41) = some xj:=r2
   have HS2:=Lib.hid S2
   clear S2 SI
   have HD:=Lib.hid (And.intro hdk (And.intro hiX hjX))
   clear hdk hiX hjX
   go_wp2_with fail
   have mixed:Tryz.prog.follows .mixedOrders = true:=by kernel_rfl
   go_big_region_o
   go_wp2_with fail
   go_roundg (n - (k + 1))
   case measure=>omega
   case rel =>
    obtain ⟨rfl,rfl⟩:=HX.out
    have h0:=HN.out
    exact ⟨k + 1,_,by simp,rfl,by omega,HS2.out,HI1.out.step (by omega) (by omega)⟩
  ·have hkn:k = n:=by omega
   subst hkn
   have i1:¬ (k:Int) < (k:Int):=by omega
   go_wp2_with fail
   go_end0
   exact ⟨rfl,dk,HS1.out,HI1.out⟩
set_option maxRecDepth 100000 in
set_option maxHeartbeats 2000000 in
theorem rotOp_any (p:OpW → Prop) (w0:World) (g c N:Nat) (d:Array OpW) (a m b:Nat) (w:World) (hN:d.size = N) (S:SWF codO p w0 g d w) (h1:a < m) (h2:m < b) (h3:b ≤ N) (hb:N ≤ 140737488355328) (fv:Value) :
  Calls Tryz.prog 162 #[.slice (some ⟨g,0,none⟩) N c,.int .i64 a,.int .i64 m,.int .i64 b,fv] w fun e w'=>e = .returned (.tuple #[]) ∧ ∃ d',SWF codO p w0 g d' w' ∧ RotIn a m b d d':=by
 obtain ⟨T,hT⟩:=RotIn.exists (d:=d) (a:=a) (m:=m) (b:=b) (by omega) (by omega) (by omega)
 have HT:=Lib.hid hT
 have HS:=Lib.hid S
 have HN:=Lib.hid hN
 obtain ⟨ia,hia⟩:∃ i:Nat,i + a = m:=⟨m - a,by omega⟩
 obtain ⟨jb,hjb⟩:∃ j:Nat,j + m = b:=⟨b - m,by omega⟩
 have wi:IntKind.i64.wrap ((m:Int) - (a:Int)) = (ia:Int):=by rw [IntKind.wrap_i64];omega
 have wj:IntKind.i64.wrap ((b:Int) - (m:Int)) = (jb:Int):=by rw [IntKind.wrap_i64];omega
 have HX:=Lib.hid (And.intro hia hjb)
 clear S hN hT hia hjb
 go_enter Tryz.func162,Tryz.ntmps162
 go_wp2_with fail
 clear wi wj
 go_loopg [10,11] (ia + jb) (fun gk iv jv wr=>RotR codO p w0 g T m N gk iv jv wr)
 case atStart =>
  obtain ⟨e1,e2⟩:=HX.out
  refine ⟨ia,jb,d,rfl,rfl,rfl,by omega,by omega,by omega,by omega,HN.out,HS.out,?_⟩
  rw [show m - ia = a by omega,show m + jb = b by omega]
  exact HT.out
 case round =>
  obtain ⟨i,j,dk,rfl,rfl,rfl,hi,hj,him,hjN,hdk,S1,R1⟩:=hrel
  have HS1:=Lib.hid S1
  have HR1:=Lib.hid R1
  obtain ⟨q,hq⟩:∃ q:Nat,q + i = m:=⟨m - i,by omega⟩
  have wq:IntKind.i64.wrap ((m:Int) - (i:Int)) = (q:Int):=by rw [IntKind.wrap_i64];omega
  clear S1 R1
  by_cases hij:i = j
  ·subst hij
   have HQ:=Lib.hid (And.intro hq (And.intro him hjN))
   have HD:=Lib.hid hdk
   clear hq hdk him hjN
   go_wp2_with (go_at_call 175;refine (swrOp_any p w0 g c N dk q m i wr HD.out HS1.out (by have:=HQ.out.1;omega) HQ.out.2.2 hb _).mono ?_;rintro e w9 ⟨rfl,d9,S9,I9⟩)
   go_end0
   obtain ⟨hq,him,hjN⟩:=HQ.out
   have R1:=HR1.out
   obtain rfl:q = m - i:=by omega
   have hl:=R1.last I9 him
   have:d9 = T:=ext_all (by rw [I9.size,R1.size]) hl
   subst this
   exact ⟨rfl,d9,S9,HT.out⟩
  ·by_cases hgt:j < i
   ·have i1:¬ (i:Int) = (j:Int):=by omega
    have i2:(j:Int) < (i:Int):=by omega
    obtain ⟨i',hi'⟩:∃ x:Nat,x + j = i:=⟨i - j,by omega⟩
    have wi':IntKind.i64.wrap ((i:Int) - (j:Int)) = (i':Int):=by rw [IntKind.wrap_i64];omega
    have HQ:=Lib.hid (And.intro hq (And.intro hi' (And.intro him hjN)))
    have HD:=Lib.hid hdk
    clear hq hi' hdk him hjN
    go_wp2_with (go_at_call 175;refine (swrOp_any p w0 g c N dk q m j wr HD.out HS1.out (by have:=HQ.out.1;omega) HQ.out.2.2.2 hb _).mono ?_;rintro e w9 ⟨rfl,d9,S9,I9⟩)
    go_roundg (i' + j)
    case measure=>have:=HQ.out.2.1;omega
    case rel =>
     obtain ⟨hq,hi',him,hjN⟩:=HQ.out
     have R1:=HR1.out
     obtain rfl:q = m - i:=by omega
     refine ⟨i',j,d9,rfl,rfl,rfl,by omega,hj,by omega,hjN,by rw [I9.size];exact HD.out,S9,?_⟩
     rw [show m - i' = m - i + j by omega]
     exact R1.big I9 hgt him
   ·have i1:¬ (i:Int) = (j:Int):=by omega
    have i2:¬ (j:Int) < (i:Int):=by omega
    obtain ⟨u,hu⟩:∃ x:Nat,x = m + j:=⟨_,rfl⟩
    have wu:IntKind.i64.wrap ((m:Int) + (j:Int)) = (u:Int):=by rw [IntKind.wrap_i64];omega
    obtain ⟨v,hv⟩:∃ x:Nat,x + i = u:=⟨u - i,by omega⟩
    have wv:IntKind.i64.wrap ((u:Int) - (i:Int)) = (v:Int):=by rw [IntKind.wrap_i64];omega
    obtain ⟨j',hj'⟩:∃ x:Nat,x + i = j:=⟨j - i,by omega⟩
    have wj':IntKind.i64.wrap ((j:Int) - (i:Int)) = (j':Int):=by rw [IntKind.wrap_i64];omega
    have HQ:=Lib.hid (And.intro hq (And.intro hu (And.intro hv (And.intro hj' (And.intro him hjN)))))
    have HD:=Lib.hid hdk
    clear hq hu hv hj' hdk him hjN
    go_wp2_with (go_at_call 175;refine (swrOp_any p w0 g c N dk q v i wr HD.out HS1.out (by obtain ⟨z1,z2,z3,z4,z5,z6⟩:=HQ.out;omega) (by obtain ⟨z1,z2,z3,z4,z5,z6⟩:=HQ.out;omega) hb _).mono ?_;rintro e w9 ⟨rfl,d9,S9,I9⟩)
    go_roundg (i + j')
    case measure=>have:=HQ.out.2.2.2.1;omega
    case rel =>
     obtain ⟨hq,hu,hv,hj',him,hjN⟩:=HQ.out
     have R1:=HR1.out
     obtain rfl:q = m - i:=by omega
     obtain rfl:v = m + j - i:=by omega
     refine ⟨i,j',d9,rfl,rfl,rfl,hi,by omega,him,by omega,by rw [I9.size];exact HD.out,S9,?_⟩
     rw [show m + j' = m + j - i by omega]
     exact R1.small I9 (by omega) him
def CmpFOp (p:OpW → Prop) (w0:World) (g:Nat) (cv:Value) (cf:OpW → OpW → Int) (N:Nat):Prop :=
 ∀ (W:World) (d:Array OpW),d.size = N → SWF codO p w0 g d W → ∀ x y:OpW,p x → p y → Calls Tryz.prog 75 #[.agg (codO.A x),.agg (codO.A y)] W (Gives W (.int .i64 (cf x y)))
set_option maxRecDepth 100000 in
set_option maxHeartbeats 4000000 in
theorem insOp_any (p:OpW → Prop) (cf:OpW → OpW → Int) (hL:SWO (ltC cf)) (w0:World) (g c N:Nat) (cv:Value) (hC:CmpFOp p w0 g cv cf N) (d:Array OpW) (a b:Nat) (w:World) (hN:d.size = N) (S:SWF codO p w0 g d w) (h1:a ≤ b) (h2:b ≤ N) (hb:N ≤ 140737488355328) :
  Calls Tryz.prog 131 #[.slice (some ⟨g,0,none⟩) N c,.int .i64 a,.int .i64 b,.func (.func 75) #[] #[]] w fun e w'=>e = .returned (.tuple #[]) ∧ ∃ d',SWF codO p w0 g d' w' ∧ PermIn a b d d' ∧ SortedIn (ltC cf) a b d':=by
 have HS:=Lib.hid S
 have HN:=Lib.hid hN
 have HC:=Lib.hid hC
 have HL:=Lib.hid (insertionSort_holds (lt:=ltC cf) hL d a b h1 (by omega))
 obtain ⟨a1,ha1⟩:∃ x:Nat,x = a + 1:=⟨_,rfl⟩
 have wa:IntKind.i64.wrap ((a:Int) + 1) = (a1:Int):=by rw [IntKind.wrap_i64];omega
 have HA:=Lib.hid ha1
 clear S hN hC hL ha1
 go_enter Tryz.func131,Tryz.ntmps131
 go_wp2_with fail
 clear wa
 go_loopg [8] (b - a) (fun gk iv wr=>InsR codO p w0 g (ltC cf) d a b N gk iv wr)
 case atStart =>
  have:=HA.out
  subst this
  exact ⟨a + 1,d,rfl,by omega,by omega,by omega,HN.out,HS.out,rfl⟩
 case round =>
  obtain ⟨i,di,rfl,rfl,hai,hib,hdi,S1,E1⟩:=hrel
  have HS1:=Lib.hid S1
  have HE1:=Lib.hid E1
  have HD:=Lib.hid hdi
  clear S1 E1 hdi
  by_cases hlt:i < b
  ·have i1:(i:Int) < (b:Int):=by omega
   go_wp2_with fail
   go_loopg [9] i (fun gk jv wr=>InnR codO p w0 g (ltC cf) di a i N gk jv wr)
   case atStart=>exact ⟨i,di,rfl,rfl,by omega,by omega,HD.out,HS1.out,rfl⟩
   case round =>
    rename_i w4
    obtain ⟨j,dk,rfl,rfl,haj,hji,hdk,S3,E3⟩:=hrel
    have HS3:=Lib.hid S3
    have HE3:=Lib.hid E3
    clear S3 E3
    have out:(j ≤ a ∨ ltC cf dk[j]! dk[j - 1]! = false) → insOuter (ltC cf) a b (i + 1) dk = insOuter (ltC cf) a b (a + 1) d:=fun hs=>by
     rw [← HE1.out,insOuter_go _ _ _ _ _ hlt,← HE3.out,insInner_stop _ _ _ _ hs]
    have OUT:=Lib.hid out
    clear out
    by_cases hja:a < j
    ·have i2:(a:Int) < (j:Int):=by omega
     obtain ⟨jX,hjp⟩:∃ x:Nat,x + 1 = j:=⟨j - 1,by omega⟩
     have wj:IntKind.i64.wrap ((j:Int) - 1) = (jX:Int):=by rw [IntKind.wrap_i64];omega
     have hiX:j < dk.size:=by omega
     have hjX:jX < dk.size:=by omega
     have ci:(j:Int) < (N:Int):=by omega
     have cj:(jX:Int) < (N:Int):=by omega
     have i0:(0:Int) ≤ (j:Int):=by omega
     have j0:(0:Int) ≤ (jX:Int):=by omega
     have hg:=HS3.out.lt
     have px:=HS3.out.ok j hiX
     have py:=HS3.out.ok jX hjX
     have e1:codO.rd wr g (j * 41) = some dk[j]!:=HS3.out.rd j hiX
     have e2:codO.rd wr g (jX * 41) = some dk[jX]!:=HS3.out.rd jX hjX
     have D1:∀ w',Fr noB wr w' → Calls Tryz.prog 75 #[.agg (codO.A dk[j]!),.agg (codO.A dk[jX]!)] w' (Gives w' (.int .i64 (cf dk[j]! dk[jX]!))):=fun w' f=>HC.out w' dk hdk (HS3.out.step f) _ _ px py
     obtain ⟨z,hz⟩:∃ z,cf dk[j]! dk[jX]! = z:=⟨_,rfl⟩
     rw [hz] at D1
     have HZ:=Lib.hid hz
     have HJ:=Lib.hid (And.intro hjp (And.intro hdk (And.intro hiX hjX)))
     obtain ⟨xa,hxa⟩:∃ x,dk[j]! = x:=⟨_,rfl⟩
     obtain ⟨xb,hxb⟩:∃ x,dk[jX]! = x:=⟨_,rfl⟩
     rw [hxa] at e1 D1
     rw [hxb] at e2 D1
     clear hz hjp hdk hiX hjX px py hxa hxb
     by_cases hneg:z < 0
     ·go_wp2_with fail
      refine wp_region_fr (by kernel_rfl) (by kernel_rfl) ?_
      iterate 14
       refine wpQ_take (v:=?_) (by rfl) (fun wS hS=>?_) ?_
       rotate_left
       ·obtain ⟨L1,L2,L3,L4,L5,L6⟩:=Fr.same hS;go_simp;try with_reducible rfl
       try simp only [sA1,sA2,sA3,Act.put,sA4,sA5,sA6]
      refine wpQ_call (by rfl) (fun wS hS=>⟨_,_,?qh233,Calls.fr hS (D1 _ hS)⟩) ?qk233
      case qh233=>obtain ⟨L1,L2,L3,L4,L5,L6⟩:=Fr.same hS;go_simp;try with_reducible rfl
      try simp only [sA1,sA2,sA3,Act.put,sA4,sA5,sA6]
      iterate 2
       refine wpQ_take (v:=?_) (by rfl) (fun wS hS=>?_) ?_
       rotate_left
       ·obtain ⟨L1,L2,L3,L4,L5,L6⟩:=Fr.same hS;go_simp;try with_reducible rfl
       try simp only [sA1,sA2,sA3,Act.put,sA4,sA5,sA6]
      refine wpQ_nil ?_
      intro w1 f1
      clear D1 e1 e2
      obtain ⟨hjp,hdk,hiX,hjX⟩:=HJ.out
      have SI:=(HS3.out.step f1).step ((Fr.refl noB w1).drew)
      obtain ⟨iX,hIX⟩:∃ x:Nat,x = j:=⟨_,rfl⟩
      rw [← hIX] at hiX
      obtain ⟨s1,s2,S2⟩:=SI.swp okO (i:=iX) (j:=jX) hiX hjX
      have r1:=SI.rd iX hiX
      have r2:=SI.rd jX hjX
      generalize dk[iX]! = xi at r1 s2 S2
      generalize dk[jX]! = xj at r2 s1 s2 S2
      generalize hW1:w1.drew.setCells g (iX * codO.n) (codO.cs xj) = W1 at s1 s2 S2
      generalize hW2:W1.setCells g (jX * codO.n) (codO.cs xi) = W2 at s2 S2
      clear hW1 hW2
      replace s1:codO.stR w1.drew (.pointer (some ⟨g,iX * 41,none⟩)) (.agg (codO.A xj)) = .ok .skip W1:=s1
      replace s2:codO.stR W1 (.pointer (some ⟨g,jX * 41,none⟩)) (.agg (codO.A xi)) = .ok .skip W2:=s2
      replace r1:codO.rd w1.drew g (iX * 41) = some xi:=r1
      replace r2:codO.rd w1.drew g (jX * 41) = some xj:=r2
      have HS2:=Lib.hid S2
      clear S2 SI
      subst hIX
      clear hjp hdk hiX hjX hg
      go_wp2_with fail
      have mixed:Tryz.prog.follows .mixedOrders = true:=by kernel_rfl
      go_big_region_o
      go_wp2_with fail
      go_roundg jX
      case measure=>have:=HJ.out.1;omega
      case rel =>
       obtain ⟨hjp,hdk,hiX,hjX⟩:=HJ.out
       refine ⟨jX,_,rfl,rfl,by omega,by omega,by rw [swp_size];exact hdk,HS2.out,?_⟩
       have hlt':ltC cf dk[iX]! dk[iX - 1]! = true:=by
        rw [show iX - 1 = jX by omega]
        show decide _ = true
        rw [HZ.out]
        exact decide_eq_true hneg
       have:=insInner_go (ltC cf) a iX dk hja hlt'
       rw [show iX - 1 = jX by omega] at this
       rw [← this,HE3.out]
     ·go_wp2_with fail
      refine wp_region_fr (by kernel_rfl) (by kernel_rfl) ?_
      iterate 14
       refine wpQ_take (v:=?_) (by rfl) (fun wS hS=>?_) ?_
       rotate_left
       ·obtain ⟨L1,L2,L3,L4,L5,L6⟩:=Fr.same hS;go_simp;try with_reducible rfl
       try simp only [sA1,sA2,sA3,Act.put,sA4,sA5,sA6]
      refine wpQ_call (by rfl) (fun wS hS=>⟨_,_,?qh288,Calls.fr hS (D1 _ hS)⟩) ?qk288
      case qh288=>obtain ⟨L1,L2,L3,L4,L5,L6⟩:=Fr.same hS;go_simp;try with_reducible rfl
      try simp only [sA1,sA2,sA3,Act.put,sA4,sA5,sA6]
      iterate 2
       refine wpQ_take (v:=?_) (by rfl) (fun wS hS=>?_) ?_
       rotate_left
       ·obtain ⟨L1,L2,L3,L4,L5,L6⟩:=Fr.same hS;go_simp;try with_reducible rfl
       try simp only [sA1,sA2,sA3,Act.put,sA4,sA5,sA6]
      refine wpQ_nil ?_
      intro w1 f1
      clear D1 e1 e2
      go_wp2_with fail
      go_roundg (b + 1 - (i + 1))
      case measure=>omega
      case rel =>
       obtain ⟨hjp,hdk,hiX,hjX⟩:=HJ.out
       exact ⟨i + 1,dk,by simp,rfl,by omega,by omega,hdk,HS3.out.step f1,OUT.out (.inr (by
        rw [show j - 1 = jX by omega]
        show decide _ = false
        rw [HZ.out]
        exact decide_eq_false (by omega)))⟩
    ·have i2:¬ (a:Int) < (j:Int):=by omega
     have HDK:=Lib.hid hdk
     clear hdk
     go_wp2_with fail
     refine wp_region_fr (by kernel_rfl) (by kernel_rfl) ?_
     iterate 4
      refine wpQ_take (v:=?_) (by rfl) (fun wS hS=>?_) ?_
      rotate_left
      ·obtain ⟨L1,L2,L3,L4,L5,L6⟩:=Fr.same hS;go_simp;try with_reducible rfl
      try simp only [sA1,sA2,sA3,Act.put,sA4,sA5,sA6]
     iterate 12
      refine wpQ_off (by rfl) ?_
      try simp only [sA1,sA2,sA3,Act.put,sA4,sA5,sA6]
     refine wpQ_take (v:=?_) (by rfl) (fun wS hS=>?_) ?_
     rotate_left
     ·obtain ⟨L1,L2,L3,L4,L5,L6⟩:=Fr.same hS;go_simp;try with_reducible rfl
     try simp only [sA1,sA2,sA3,Act.put,sA4,sA5,sA6]
     refine wpQ_nil ?_
     intro w1 f1
     go_wp2_with fail
     go_roundg (b + 1 - (i + 1))
     case measure=>omega
     case rel=>exact ⟨i + 1,dk,by simp,rfl,by omega,by omega,HDK.out,HS3.out.step f1,OUT.out (.inl (by omega))⟩
  ·have i1:¬ (i:Int) < (b:Int):=by omega
   go_wp2_with fail
   go_end0
   have:=HE1.out
   rw [insOuter_stop _ _ _ _ _ hlt] at this
   subst this
   exact ⟨rfl,_,HS1.out,HL.out⟩
set_option maxRecDepth 100000 in
set_option maxHeartbeats 4000000 in
theorem sym1Op_any (p:OpW → Prop) (cf:OpW → OpW → Int) (hL:SWO (ltC cf)) (w0:World) (g c N:Nat) (cv:Value) (hC:CmpFOp p w0 g cv cf N) (d:Array OpW) (a m b:Nat) (w:World) (hN:d.size = N) (S:SWF codO p w0 g d w) (h1:m = a + 1) (h2:m < b) (h3:b ≤ N) (hb:N ≤ 140737488355328)
  (sr:SortedIn (ltC cf) m b d) :
  Calls Tryz.prog 132 #[.slice (some ⟨g,0,none⟩) N c,.int .i64 a,.int .i64 m,.int .i64 b,.func (.func 75) #[] #[]] w fun e w'=>e = .returned (.tuple #[]) ∧ ∃ d',SWF codO p w0 g d' w' ∧ PermIn a b d d' ∧ SortedIn (ltC cf) a b d':=by
 have HS:=Lib.hid S
 have HN:=Lib.hid hN
 have HC:=Lib.hid hC
 have HL:=Lib.hid hL
 have HR:=Lib.hid sr
 have k1:((m:Int) - (a:Int) == 1) = true:=by rw [beq_iff_eq];omega
 have k2:IntKind.i64.wrap ((m:Int) - (a:Int)) = (m:Int) - (a:Int):=by rw [IntKind.wrap_i64];omega
 have HM:=Lib.hid h1
 have h1':a < m:=by omega
 clear S hN hC hL sr h1
 go_enter Tryz.func132,Tryz.ntmps132
 go_wp2_with fail
 clear k1 k2
 go_loopg [10,11] (b - m) (fun gk iv jv wr=>BsR codO p w0 g d (fun i j=>CutL (ltC cf) d a m b i j) gk iv jv wr)
 case atStart=>exact ⟨m,b,rfl,rfl,rfl,by omega,CutL.start (by omega),HS.out⟩
 case round =>
  obtain ⟨i,j,rfl,rfl,rfl,hij,hK,S1⟩:=hrel
  have HS1:=Lib.hid S1
  have HK:=Lib.hid hK
  clear S1 hK
  have kb:=HK.out.h1
  have kt:=HK.out.h3
  by_cases hlt:i < j
  ·skip
   obtain ⟨h,hh⟩:∃ x:Nat,x = (i + j) / 2:=⟨_,rfl⟩
   have wh:((i:Int) + (j:Int)) / 2 = (h:Int):=by omega
   have hih:i ≤ h:=by omega
   have hhj:h < j:=by omega
   have i1:(i:Int) < (j:Int):=by omega
   have wr1:IntKind.i64.wrap ((i:Int) + (j:Int)) = (i:Int) + (j:Int):=by rw [IntKind.wrap_i64];omega
   have HH:=Lib.hid hh
   clear hh
   have ci:(h:Int) < (N:Int):=by omega
   have cj:(a:Int) < (N:Int):=by omega
   have i0:(0:Int) ≤ (h:Int):=by omega
   have j0:(0:Int) ≤ (a:Int):=by omega
   have hg:=HS1.out.lt
   have px:=HS1.out.ok h (by rw [HN.out];omega)
   have py:=HS1.out.ok a (by rw [HN.out];omega)
   have e1:codO.rd wr g (h * 41) = some d[h]!:=HS1.out.rd h (by rw [HN.out];omega)
   have e2:codO.rd wr g (a * 41) = some d[a]!:=HS1.out.rd a (by rw [HN.out];omega)
   have D1:∀ w',Fr noB wr w' → Calls Tryz.prog 75 #[.agg (codO.A d[h]!),.agg (codO.A d[a]!)] w' (Gives w' (.int .i64 (cf d[h]! d[a]!))):=fun w' f=>HC.out w' d HN.out (HS1.out.step f) _ _ px py
   obtain ⟨z,hz⟩:∃ z,cf d[h]! d[a]! = z:=⟨_,rfl⟩
   rw [hz] at D1
   have HZ:=Lib.hid (show ltC cf d[h]! d[a]! = decide (z < 0) by show decide _ = _;rw [hz])
   generalize d[h]! = xa at e1 D1
   generalize d[a]! = xb at e2 D1
   clear hz px py
   go_wp2_with fail
   refine wp_region_fr (by kernel_rfl) (by kernel_rfl) ?_
   iterate 9
    refine wpQ_take (v:=?_) (by rfl) (fun wS hS=>?_) ?_
    rotate_left
    ·obtain ⟨L1,L2,L3,L4,L5,L6⟩:=Fr.same hS;have L8:=Fr.sameO hS;go_simp;try with_reducible rfl
    try simp only [sA1,sA2,sA3,Act.put,sA4,sA5,sA6]
   refine wpQ_call (by rfl) (fun wS hS=>⟨_,_,?qh67,Calls.fr hS (D1 _ hS)⟩) ?qk67
   case qh67=>obtain ⟨L1,L2,L3,L4,L5,L6⟩:=Fr.same hS;go_simp;try with_reducible rfl
   try simp only [sA1,sA2,sA3,Act.put,sA4,sA5,sA6]
   refine wpQ_take (v:=?_) (by rfl) (fun wS hS=>?_) ?_
   rotate_left
   ·obtain ⟨L1,L2,L3,L4,L5,L6⟩:=Fr.same hS;have L8:=Fr.sameO hS;go_simp;try with_reducible rfl
   try simp only [sA1,sA2,sA3,Act.put,sA4,sA5,sA6]
   refine wpQ_nil ?_
   intro w1 f1
   clear D1 e1 e2
   by_cases hneg:z < 0
   ·have HZ2:=Lib.hid (HZ.out.trans (decide_eq_true hneg))
    go_wp2_with fail
    go_roundg (j - (h + 1))
    case measure=>omega
    case rel=>exact ⟨h + 1,j,by simp,rfl,rfl,by omega,HK.out.up HL.out HR.out hih hhj HZ2.out,HS1.out.step f1⟩
   ·have HZ2:=Lib.hid (HZ.out.trans (decide_eq_false hneg))
    go_wp2_with fail
    go_roundg (h - i)
    case measure=>omega
    case rel=>exact ⟨i,h,rfl,rfl,rfl,by omega,HK.out.down HL.out HR.out hih hhj HZ2.out,HS1.out.step f1⟩
  ·obtain rfl:i = j:=by omega
   have i1:¬ (i:Int) < (i:Int):=by omega
   go_wp2_with fail
   go_loopg [13] (i - 1 - a) (fun gk kv wr=>MvR codO p w0 g N (fun k dk=>a ≤ k ∧ k + 1 ≤ i ∧ RotIn a (a + 1) (k + 1) d dk) (fun k=>i - 1 - k) gk kv wr)
   case atStart=>exact ⟨a,d,rfl,rfl,HN.out,⟨by omega,by omega,RotIn.right (by omega) d⟩,HS1.out⟩
   case round =>
    obtain ⟨k,dk,rfl,rfl,hdk,⟨hak,hki,hrot⟩,S3⟩:=hrel
    have HS3:=Lib.hid S3
    have HRT:=Lib.hid hrot
    clear S3 hrot
    by_cases hkl:k + 1 < i
    ·have i2:(k:Int) < (i:Int) - 1:=by omega
     have i2':IntKind.i64.wrap ((i:Int) - 1) = (i:Int) - 1:=by rw [IntKind.wrap_i64];omega
     obtain ⟨iX,hIX⟩:∃ x:Nat,x = k:=⟨_,rfl⟩
     obtain ⟨jX,hJX⟩:∃ x:Nat,x = k + 1:=⟨_,rfl⟩
     have wj:IntKind.i64.wrap ((k:Int) + 1) = (jX:Int):=by rw [IntKind.wrap_i64];omega
     have hiX:iX < dk.size:=by omega
     have hjX:jX < dk.size:=by omega
     have ci:(k:Int) < (N:Int):=by omega
     have cj:(jX:Int) < (N:Int):=by omega
     have i0:(0:Int) ≤ (k:Int):=by omega
     have j0:(0:Int) ≤ (jX:Int):=by omega
     have SI:=HS3.out.step ((Fr.refl noB wr).drew)
     obtain ⟨s1,s2,S2⟩:=SI.swp okO (i:=iX) (j:=jX) hiX hjX
     have r1:=SI.rd iX hiX
     have r2:=SI.rd jX hjX
     generalize dk[iX]! = xi at r1 s2 S2
     generalize dk[jX]! = xj at r2 s1 s2 S2
     generalize hW1:wr.drew.setCells g (iX * codO.n) (codO.cs xj) = W1 at s1 s2 S2
     generalize hW2:W1.setCells g (jX * codO.n) (codO.cs xi) = W2 at s2 S2
     clear hW1 hW2
     replace s1:codO.stR wr.drew (.pointer (some ⟨g,iX * 41,none⟩)) (.agg (codO.A xj)) = .ok .skip W1:=s1
     replace s2:codO.stR W1 (.pointer (some ⟨g,jX * 41,none⟩)) (.agg (codO.A xi)) = .ok .skip W2:=s2
     replace r1:codO.rd wr.drew g (iX * 41) = some xi:=r1
     replace r2:codO.rd wr.drew g (jX * 41) = some xj:=r2
     have HS2:=Lib.hid S2
     clear S2 SI
     subst hIX
     have HX:=Lib.hid (And.intro hJX (And.intro hdk (And.intro hiX hjX)))
     clear hJX hdk hiX hjX
     have mixed:Tryz.prog.follows .mixedOrders = true:=by kernel_rfl
     go_wp2_with fail
     go_big_region_o
     go_wp2_with fail
     go_roundg (i - 1 - (iX + 1))
     case measure=>omega
     case rel =>
      obtain ⟨rfl,hdk,hiX,hjX⟩:=HX.out
      exact ⟨iX + 1,_,by simp,rfl,by rw [swp_size];exact hdk,⟨by omega,by omega,HRT.out.up hak (by have:=HN.out;omega)⟩,HS2.out⟩
    ·have hkn:k + 1 = i:=by omega
     have i2:¬ (k:Int) < (i:Int) - 1:=by omega
     have i2':IntKind.i64.wrap ((i:Int) - 1) = (i:Int) - 1:=by rw [IntKind.wrap_i64];omega
     have HX:=Lib.hid hdk
     clear hdk
     go_wp2_with fail
     (try simp only [Exit.inBlock,Exit.then])
     refine bodyPost_ret (results_none rfl _ _ _) rfl ?_
     subst hkn
     have hN:=HN.out
     have h1:=HM.out
     subst h1
     exact ⟨rfl,dk,HS3.out,HK.out.done HL.out HR.out (by omega) HRT.out⟩
set_option maxRecDepth 100000 in
set_option maxHeartbeats 4000000 in
theorem sym2Op_any (p:OpW → Prop) (cf:OpW → OpW → Int) (hL:SWO (ltC cf)) (w0:World) (g c N:Nat) (cv:Value) (hC:CmpFOp p w0 g cv cf N) (d:Array OpW) (a m b:Nat) (w:World) (hN:d.size = N) (S:SWF codO p w0 g d w) (h0:m ≠ a + 1) (h1:a < m) (h2:b = m + 1) (h3:b ≤ N) (hb:N ≤ 140737488355328)
  (sl:SortedIn (ltC cf) a m d) :
  Calls Tryz.prog 132 #[.slice (some ⟨g,0,none⟩) N c,.int .i64 a,.int .i64 m,.int .i64 b,.func (.func 75) #[] #[]] w fun e w'=>e = .returned (.tuple #[]) ∧ ∃ d',SWF codO p w0 g d' w' ∧ PermIn a b d d' ∧ SortedIn (ltC cf) a b d':=by
 have HS:=Lib.hid S
 have HN:=Lib.hid hN
 have HC:=Lib.hid hC
 have HL:=Lib.hid hL
 have HR:=Lib.hid sl
 have k1:((m:Int) - (a:Int) == 1) = false:=by rw [beq_eq_false_iff_ne];omega
 have k2:IntKind.i64.wrap ((m:Int) - (a:Int)) = (m:Int) - (a:Int):=by rw [IntKind.wrap_i64];omega
 have k3:((b:Int) - (m:Int) == 1) = true:=by rw [beq_iff_eq];omega
 have k4:IntKind.i64.wrap ((b:Int) - (m:Int)) = (b:Int) - (m:Int):=by rw [IntKind.wrap_i64];omega
 have HM:=Lib.hid h2
 have h2':m < b:=by omega
 clear S hN hC hL sl h2
 go_enter Tryz.func132,Tryz.ntmps132
 go_wp2_with fail
 clear k1 k2 k3 k4
 go_loopg [14,15] (m - a) (fun gk iv jv wr=>BsR codO p w0 g d (fun i j=>CutR (ltC cf) d a m i j) gk iv jv wr)
 case atStart=>exact ⟨a,m,rfl,rfl,rfl,by omega,CutR.start (by omega),HS.out⟩
 case round =>
  obtain ⟨i,j,rfl,rfl,rfl,hij,hK,S1⟩:=hrel
  have HS1:=Lib.hid S1
  have HK:=Lib.hid hK
  clear S1 hK
  have kb:=HK.out.h1
  have kt:=HK.out.h3
  by_cases hlt:i < j
  ·skip
   obtain ⟨h,hh⟩:∃ x:Nat,x = (i + j) / 2:=⟨_,rfl⟩
   have wh:((i:Int) + (j:Int)) / 2 = (h:Int):=by omega
   have hih:i ≤ h:=by omega
   have hhj:h < j:=by omega
   have i1:(i:Int) < (j:Int):=by omega
   have wr1:IntKind.i64.wrap ((i:Int) + (j:Int)) = (i:Int) + (j:Int):=by rw [IntKind.wrap_i64];omega
   have HH:=Lib.hid hh
   clear hh
   have ci:(m:Int) < (N:Int):=by omega
   have cj:(h:Int) < (N:Int):=by omega
   have i0:(0:Int) ≤ (m:Int):=by omega
   have j0:(0:Int) ≤ (h:Int):=by omega
   have hg:=HS1.out.lt
   have px:=HS1.out.ok m (by rw [HN.out];omega)
   have py:=HS1.out.ok h (by rw [HN.out];omega)
   have e1:codO.rd wr g (m * 41) = some d[m]!:=HS1.out.rd m (by rw [HN.out];omega)
   have e2:codO.rd wr g (h * 41) = some d[h]!:=HS1.out.rd h (by rw [HN.out];omega)
   have D1:∀ w',Fr noB wr w' → Calls Tryz.prog 75 #[.agg (codO.A d[m]!),.agg (codO.A d[h]!)] w' (Gives w' (.int .i64 (cf d[m]! d[h]!))):=fun w' f=>HC.out w' d HN.out (HS1.out.step f) _ _ px py
   obtain ⟨z,hz⟩:∃ z,cf d[m]! d[h]! = z:=⟨_,rfl⟩
   rw [hz] at D1
   have HZ:=Lib.hid (show ltC cf d[m]! d[h]! = decide (z < 0) by show decide _ = _;rw [hz])
   generalize d[m]! = xa at e1 D1
   generalize d[h]! = xb at e2 D1
   clear hz px py
   by_cases hneg:z < 0
   ·have HZ2:=Lib.hid (HZ.out.trans (decide_eq_true hneg))
    go_wp2_with fail
    refine wp_region_fr (by kernel_rfl) (by kernel_rfl) ?_
    iterate 9
     refine wpQ_take (v:=?_) (by rfl) (fun wS hS=>?_) ?_
     rotate_left
     ·obtain ⟨L1,L2,L3,L4,L5,L6⟩:=Fr.same hS;have L8:=Fr.sameO hS;go_simp;try with_reducible rfl
     try simp only [sA1,sA2,sA3,Act.put,sA4,sA5,sA6]
    refine wpQ_call (by rfl) (fun wS hS=>⟨_,_,?qh214,Calls.fr hS (D1 _ hS)⟩) ?qk214
    case qh214=>obtain ⟨L1,L2,L3,L4,L5,L6⟩:=Fr.same hS;go_simp;try with_reducible rfl
    try simp only [sA1,sA2,sA3,Act.put,sA4,sA5,sA6]
    iterate 2
     refine wpQ_take (v:=?_) (by rfl) (fun wS hS=>?_) ?_
     rotate_left
     ·obtain ⟨L1,L2,L3,L4,L5,L6⟩:=Fr.same hS;have L8:=Fr.sameO hS;go_simp;try with_reducible rfl
     try simp only [sA1,sA2,sA3,Act.put,sA4,sA5,sA6]
    refine wpQ_nil ?_
    intro w1 f1
    clear D1 e1 e2
    go_wp2_with fail
    go_roundg (h - i)
    case measure=>omega
    case rel=>exact ⟨i,h,rfl,rfl,rfl,by omega,HK.out.down HL.out HR.out hih hhj HZ2.out,HS1.out.step f1⟩
   ·have HZ2:=Lib.hid (HZ.out.trans (decide_eq_false hneg))
    go_wp2_with fail
    refine wp_region_fr (by kernel_rfl) (by kernel_rfl) ?_
    iterate 9
     refine wpQ_take (v:=?_) (by rfl) (fun wS hS=>?_) ?_
     rotate_left
     ·obtain ⟨L1,L2,L3,L4,L5,L6⟩:=Fr.same hS;have L8:=Fr.sameO hS;go_simp;try with_reducible rfl
     try simp only [sA1,sA2,sA3,Act.put,sA4,sA5,sA6]
    refine wpQ_call (by rfl) (fun wS hS=>⟨_,_,?qh237,Calls.fr hS (D1 _ hS)⟩) ?qk237
    case qh237=>obtain ⟨L1,L2,L3,L4,L5,L6⟩:=Fr.same hS;go_simp;try with_reducible rfl
    try simp only [sA1,sA2,sA3,Act.put,sA4,sA5,sA6]
    iterate 2
     refine wpQ_take (v:=?_) (by rfl) (fun wS hS=>?_) ?_
     rotate_left
     ·obtain ⟨L1,L2,L3,L4,L5,L6⟩:=Fr.same hS;have L8:=Fr.sameO hS;go_simp;try with_reducible rfl
     try simp only [sA1,sA2,sA3,Act.put,sA4,sA5,sA6]
    refine wpQ_nil ?_
    intro w1 f1
    clear D1 e1 e2
    have hz1:(!decide (z < 0)) = true:=by simp;omega
    go_wp2_with fail
    go_roundg (j - (h + 1))
    case measure=>omega
    case rel=>exact ⟨h + 1,j,by simp,rfl,rfl,by omega,HK.out.up HL.out HR.out hih hhj HZ2.out,HS1.out.step f1⟩
    exact Bool.noConfusion (hz1.symm.trans (show (!decide (z < 0)) = false by assumption))
  ·obtain rfl:i = j:=by omega
   have i1:¬ (i:Int) < (i:Int):=by omega
   go_wp2_with fail
   go_loopg [17] (m - i) (fun gk kv wr=>MvR codO p w0 g N (fun k dk=>i ≤ k ∧ k ≤ m ∧ RotIn k m (m + 1) d dk) (fun k=>k - i) gk kv wr)
   case atStart=>exact ⟨m,d,rfl,rfl,HN.out,⟨by omega,by omega,RotIn.left (by omega) d⟩,HS1.out⟩
   case round =>
    obtain ⟨k,dk,rfl,rfl,hdk,⟨hak,hki,hrot⟩,S3⟩:=hrel
    have HS3:=Lib.hid S3
    have HRT:=Lib.hid hrot
    clear S3 hrot
    by_cases hkl:i < k
    ·have i2:(i:Int) < (k:Int):=by omega
     obtain ⟨iX,hIX⟩:∃ x:Nat,x = k:=⟨_,rfl⟩
     obtain ⟨jX,hJX⟩:∃ x:Nat,x + 1 = k:=⟨k - 1,by omega⟩
     have wj:IntKind.i64.wrap ((k:Int) - 1) = (jX:Int):=by rw [IntKind.wrap_i64];omega
     have hiX:iX < dk.size:=by omega
     have hjX:jX < dk.size:=by omega
     have ci:(k:Int) < (N:Int):=by omega
     have cj:(jX:Int) < (N:Int):=by omega
     have i0:(0:Int) ≤ (k:Int):=by omega
     have j0:(0:Int) ≤ (jX:Int):=by omega
     have SI:=HS3.out.step ((Fr.refl noB wr).drew)
     obtain ⟨s1,s2,S2⟩:=SI.swp okO (i:=iX) (j:=jX) hiX hjX
     have r1:=SI.rd iX hiX
     have r2:=SI.rd jX hjX
     generalize dk[iX]! = xi at r1 s2 S2
     generalize dk[jX]! = xj at r2 s1 s2 S2
     generalize hW1:wr.drew.setCells g (iX * codO.n) (codO.cs xj) = W1 at s1 s2 S2
     generalize hW2:W1.setCells g (jX * codO.n) (codO.cs xi) = W2 at s2 S2
     clear hW1 hW2
     replace s1:codO.stR wr.drew (.pointer (some ⟨g,iX * 41,none⟩)) (.agg (codO.A xj)) = .ok .skip W1:=s1
     replace s2:codO.stR W1 (.pointer (some ⟨g,jX * 41,none⟩)) (.agg (codO.A xi)) = .ok .skip W2:=s2
     replace r1:codO.rd wr.drew g (iX * 41) = some xi:=r1
     replace r2:codO.rd wr.drew g (jX * 41) = some xj:=r2
     have HS2:=Lib.hid S2
     clear S2 SI
     subst hIX
     have HX:=Lib.hid (And.intro hJX (And.intro hdk (And.intro hiX hjX)))
     clear hJX hdk hiX hjX
     have mixed:Tryz.prog.follows .mixedOrders = true:=by kernel_rfl
     go_wp2_with fail
     go_big_region_o
     go_wp2_with fail
     go_roundg (jX - i)
     case measure=>have:=HX.out.1;omega
     case rel =>
      obtain ⟨hJ,hdk,hiX,hjX⟩:=HX.out
      refine ⟨jX,_,rfl,rfl,by rw [swp_size];exact hdk,⟨by omega,by omega,?_⟩,HS2.out⟩
      have:=HRT.out.down (by omega) hki (by have:=HN.out;omega)
      rwa [show iX - 1 = jX by omega] at this
    ·obtain rfl:k = i:=by omega
     have i2:¬ (k:Int) < (k:Int):=by omega
     have HX:=Lib.hid hdk
     clear hdk
     go_wp2_with fail
     (try simp only [Exit.inBlock,Exit.then])
     refine bodyPost_ret (results_none rfl _ _ _) rfl ?_
     have hN:=HN.out
     have h2:=HM.out
     subst h2
     exact ⟨rfl,dk,HS3.out,HK.out.done HL.out HR.out (by omega) HRT.out⟩
end Go.Proofs.YtjpieiccpbcabaaGreat
