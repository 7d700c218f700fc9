/- Words for pollardref01's Sum; a round of it (block 9). -/
import Derived.Test.YtahllkifmmjbdaaShaBKp
import Derived.Test.YtahllkifmmjbdaaRegMKp
import Derived.Test.YtahllkifmmjbdaaR3bKp
import Derived.Deep.CutRange
import Derived.Test.YtahllkifmmjbdaaRegQKp
set_option linter.unusedVariables false
set_option linter.unusedSimpArgs false
namespace Go.Proofs.Ytahllkifmmjbdaa
open Go.RowKit Go.Maps Go.Sort
def codU:Cod Nat:=⟨55,1,fun x=>[.int .u32 (x:Int)],0,fun _=>rfl,by decide,fun x u hu=>by
 rw [List.mem_singleton] at hu
 subst hu;rfl,fun x y h=>by
 have h2:Value.int .u32 (x:Int) = Value.int .u32 (y:Int):=by injection h
 injection h2 with _ h2
 omega⟩
theorem etU:ET Try.prog 90 codU.t codU.n 4:=ET.mk' (z:=.int .u32 0) Try.underlying90 (by kernel_rfl) rfl (by decide) (by decide)
def Lt32 (l:List Nat):Prop:=∀ x ∈ l,x < 4294967296
theorem Lt32.nil:Lt32 []:=fun x h=>by cases h
theorem Lt32.snoc {l:List Nat} {x:Nat} (h:Lt32 l) (k:x < 4294967296):Lt32 (l ++ [x]):=fun y hy=>by
 rcases List.mem_append.1 hy with hy | hy
 ·exact h y hy
 ·rw [List.mem_singleton] at hy;subst hy;exact k
theorem Lt32.get {l:List Nat} (h:Lt32 l) {i:Nat} (hi:i < l.length):l[i] < 4294967296:=h _ (List.getElem_mem hi)
theorem a32_lt (a b:Nat):a32H a b < 4294967296:=Nat.mod_lt _ (by decide)
theorem lt_fst:Lt32 fstH:=by unfold Lt32;decide
theorem getDY {l:List UInt8} {i:Nat} (hi:i < l.length):l.getD i 0 = l[i]:=by rw [List.getD_eq_getElem?_getD,List.getElem?_eq_getElem hi];rfl
theorem wdH_at {l:List UInt8} {p:Nat} (hp:p + 3 < l.length):wdH l p = a32H (a32H (a32H ((l[p]).toNat * 16777216) ((l[p + 1]).toNat * 65536)) ((l[p + 2]).toNat * 256)) (l[p + 3]).toNat:=by
 unfold wdH
 rw [getDY (by omega:p < l.length),getDY (by omega:p + 1 < l.length),getDY (by omega:p + 2 < l.length),getDY hp]
structure WdF (w:World) (g off:Nat) (all:List UInt8) (p x0 x1 x2 x3 y0 y1 y2 s1 s2 s3 p1 p2 p3:Nat):Prop where
 c0:w.cell? ⟨g,off + p,none⟩ = some (.int .u8 (x0:Int))
 c1:w.cell? ⟨g,off + p1,none⟩ = some (.int .u8 (x1:Int))
 c2:w.cell? ⟨g,off + p2,none⟩ = some (.int .u8 (x2:Int))
 c3:w.cell? ⟨g,off + p3,none⟩ = some (.int .u8 (x3:Int))
 n1:IntKind.i64.wrap ((p:Int) + 1) = (p1:Int)
 n2:IntKind.i64.wrap ((p:Int) + 2) = (p2:Int)
 n3:IntKind.i64.wrap ((p:Int) + 3) = (p3:Int)
 j0:(p:Int) < (all.length:Int)
 j1:(p1:Int) < (all.length:Int)
 j2:(p2:Int) < (all.length:Int)
 j3:(p3:Int) < (all.length:Int)
 k0:IntKind.u32.wrap (x0:Int) = (x0:Int)
 k1:IntKind.u32.wrap (x1:Int) = (x1:Int)
 k2:IntKind.u32.wrap (x2:Int) = (x2:Int)
 k3:IntKind.u32.wrap (x3:Int) = (x3:Int)
 v0:IntKind.u32.wrap ((x0:Int) * 16777216) = (y0:Int)
 v1:IntKind.u32.wrap ((x1:Int) * 65536) = (y1:Int)
 v2:IntKind.u32.wrap ((x2:Int) * 256) = (y2:Int)
 u1:IntKind.u32.wrap ((y0:Int) + (y1:Int)) = (s1:Int)
 u2:IntKind.u32.wrap ((s1:Int) + (y2:Int)) = (s2:Int)
 u3:IntKind.u32.wrap ((s2:Int) + (x3:Int)) = (s3:Int)
 hw:wdH all p = s3
 lt:s3 < 4294967296
theorem wrU (n:Int):IntKind.u32.wrap n = n % 4294967296:=by simp [IntKind.wrap,IntKind.bits,IntKind.signed]
theorem a32_int (a b:Nat):IntKind.u32.wrap ((a:Int) + (b:Int)) = ((a32H a b:Nat):Int):=by rw [wrU];unfold a32H;omega
theorem wdF {w:World} {g off:Nat} {all:List UInt8} {p:Nat} (hc:∀ i (hi:i < all.length),w.cell? ⟨g,off + i,none⟩ = some (.int .u8 ((all[i]).toNat:Int))) (hp:p + 3 < all.length) (hb:all.length ≤ 1000000000100) :
  ∃ x0 x1 x2 x3 y0 y1 y2 s1 s2 s3 p1 p2 p3,WdF w g off all p x0 x1 x2 x3 y0 y1 y2 s1 s2 s3 p1 p2 p3:=by
 have l0:=UInt8.toNat_lt (all[p]'(by omega))
 have l1:=UInt8.toNat_lt (all[p + 1]'(by omega))
 have l2:=UInt8.toNat_lt (all[p + 2]'(by omega))
 have l3:=UInt8.toNat_lt (all[p + 3]'hp)
 refine ⟨_,_,_,_,_,_,_,_,_,_,p + 1,p + 2,p + 3,⟨hc p (by omega),hc (p + 1) (by omega),hc (p + 2) (by omega),hc (p + 3) hp,?_,?_,?_,by omega,by omega,by omega,by omega,by rw [wrU];omega,by rw [wrU];omega,by rw [wrU];omega,by rw [wrU];omega,?_,?_,?_,a32_int ((all[p]'(by omega)).toNat * 16777216) ((all[p + 1]'(by omega)).toNat * 65536),a32_int _ ((all[p + 2]'(by omega)).toNat * 256),a32_int _ (all[p + 3]'hp).toNat,wdH_at hp,a32_lt _ _⟩⟩
 ·rw [IntWalk.i64_in _ (by omega)];omega
 ·rw [IntWalk.i64_in _ (by omega)];omega
 ·rw [IntWalk.i64_in _ (by omega)];omega
 ·rw [wrU];omega
 ·rw [wrU];omega
 ·rw [wrU];omega
theorem getD_at {l:List Nat} {i:Nat} (hi:i < l.length):l.getD i 0 = l[i]:=by rw [List.getD_eq_getElem?_getD,List.getElem?_eq_getElem hi];rfl
structure SgF (w:World) (g off:Nat) (l:List Nat) (i k n1 n2 s:Nat) (G:Nat → Nat) (j x r1 r2 d y e:Nat):Prop where
 c:w.cell? ⟨g,off + j,none⟩ = some (.int .u32 (x:Int))
 n:IntKind.i64.wrap ((i:Int) - (k:Int)) = (j:Int)
 j0:(j:Int) < (l.length:Int)
 lt:x < 4294967296
 e1:rtH n1 x = r1
 e2:rtH n2 x = r2
 h1:bits .xor .u32 (r1:Int) (r2:Int) = (d:Int)
 h2:(x:Int) / (s:Int) = (y:Int)
 h3:bits .xor .u32 (d:Int) (y:Int) = (e:Int)
 r:G (l.getD j 0) = e
 ej:j = i - k
 elt:e < 4294967296
theorem sgF {w:World} {g off:Nat} {l:List Nat} {i k n1 n2 s:Nat} {G:Nat → Nat} (hG:∀ x,G x = rtH n1 x ^^^ rtH n2 x ^^^ x / s) (hc:∀ i (hi:i < l.length),w.cell? ⟨g,off + i,none⟩ = some (.int .u32 (l[i]:Int))) (hl:Lt32 l) (hi:i = l.length) (hk:1 ≤ k ∧ k ≤ i) (hb:i ≤ 64) :
  ∃ j x r1 r2 d y e,SgF w g off l i k n1 n2 s G j x r1 r2 d y e:=by
 have hj:i - k < l.length:=by omega
 have hx:=hl.get hj
 have a1:=rtH_lt n1 _ hx
 have a2:=rtH_lt n2 _ hx
 have a3:rtH n1 l[i - k] ^^^ rtH n2 l[i - k] < 4294967296:=Nat.xor_lt_two_pow (n:=32) a1 a2
 have a4:l[i - k] / s < 4294967296:=Nat.lt_of_le_of_lt (Nat.div_le_self _ _) hx
 refine ⟨i - k,l[i - k],_,_,_,l[i - k] / s,_,⟨hc _ hj,?_,by omega,hx,rfl,rfl,bits_xor_u32 _ _ a1 a2,by simp,bits_xor_u32 _ _ a3 a4,?_,rfl,Nat.xor_lt_two_pow (n:=32) a3 a4⟩⟩
 ·rw [IntWalk.i64_in _ (by omega)];omega
 ·rw [hG,getD_at hj]
theorem nameH_eq (b:List UInt8):nameH b = ⟨outH (bksH rdsH (padH b) ((padH b).length / 64) 0 fstH) 32,outH_len _ 32⟩:=by unfold nameH sumH;rfl
structure TbW where
 A:Option Addr
 n:Nat
 c:Nat
 B:Option Addr
 m:Nat
 d:Nat
def codTb:Cod TbW:=⟨92,2,fun x=>[.slice x.A x.n x.c,.slice x.B x.m x.d],⟨none,0,0,none,0,0⟩,fun _=>rfl,by decide,fun x u hu=>by
 simp only [List.mem_cons,List.not_mem_nil,or_false] at hu
 rcases hu with rfl | rfl <;> rfl,fun x y h=>by
 obtain ⟨A,n,c,B,m,d⟩:=x;obtain ⟨A',n',c',B',m',d'⟩:=y
 simp only [List.cons.injEq,Value.slice.injEq,and_true] at h
 obtain ⟨⟨rfl,h1,h2⟩,rfl,h3,h4⟩:=h
 have e1:n = n':=by omega
 have e2:c = c':=by omega
 have e3:m = m':=by omega
 have e4:d = d':=by omega
 subst e1 e2 e3 e4
 rfl⟩
theorem cellU {w:World} {A:Option Addr} {l:List Nat} (h:Sl w A (codU.row l)) (hl:0 < l.length):∃ g off,A = some ⟨g,off,none⟩ ∧ g < w.heap.size ∧ ∀ i (hi:i < l.length),w.cell? ⟨g,off + i,none⟩ = some (.int .u32 (l[i]:Int)):=by
 obtain ⟨g,off,rfl,hg⟩:=Sl.addr h hl
 exact ⟨g,off,rfl,hg,fun i hi=>Sl.cell1 (C:=codU) rfl h i hi rfl⟩
theorem cellY {w:World} {A:Option Addr} {l:List UInt8} (h:Sl w A (codY.row l)) (hl:0 < l.length):∃ g off,A = some ⟨g,off,none⟩ ∧ g < w.heap.size ∧ ∀ i (hi:i < l.length),w.cell? ⟨g,off + i,none⟩ = some (.int .u8 ((l[i]).toNat:Int)):=by
 obtain ⟨g,off,rfl,hg⟩:=Sl.addr h hl
 exact ⟨g,off,rfl,hg,fun i hi=>Sl.cell1 (C:=codY) rfl h i hi rfl⟩
theorem bksH_step (ks:List Nat) (l:List UInt8) (B m:Nat) (h:List Nat) (hm:m < B):bksH ks l (B - m) (64 * m) h = bksH ks l (B - (m + 1)) (64 * (m + 1)) (bkH ks l (64 * m) h):=by
 rw [show B - m = (B - (m + 1)) + 1 by omega]
 show bksH ks l _ (64 * m + 64) _ = _
 rw [show 64 * m + 64 = 64 * (m + 1) by omega]
theorem tbAt {w:World} {P:Nat} {t:TbW} (h:codTb.rd w P 0 = some t):w.cell? ⟨P,0,none⟩ = some (.slice t.A t.n t.c):=by simpa using Cod.rd_cell h 0 (v:=.slice t.A t.n t.c) rfl
theorem tbAt1 {w:World} {P:Nat} {t:TbW} (h:codTb.rd w P 0 = some t):w.cell? ⟨P,1,none⟩ = some (.slice t.B t.m t.d):=by simpa using Cod.rd_cell h 1 (v:=.slice t.B t.m t.d) rfl
theorem bxA_fr0 {w w':World} {b:Nat} {x:ID} (h:bxA w b = some x) (f:Fr noB w w'):bxA w' b = some x:=by
 have h1:=bxA_at h
 have hl:b < w.heap.size:=(Array.getElem?_eq_some_iff.1 h1).1
 exact bxA_of ((f.block b hl (by simp [noB])).trans h1)
theorem ex_bsU_at {ρ:Operand → Value} {o:Oper} {a:Operand} {w:World} {x:Int} (ho:o.op = .buildSlice 90 1 #[(0,a)]) (ha:ρ a = .int .u32 x) :
  (execOp ρ o).run Try.prog w = .ok (.value (.slice (some ⟨w.heap.size,0,none⟩) 1 1)) (w.alloc (.cells #[.int .u32 x] 55)):=by
 obtain ⟨d,op,t,p,f,g⟩:=o
 simp only at ho
 subst ho
 unfold execOp
 simp only [List.map_toArray,List.map_cons,List.map_nil,ha]
 go_simp
theorem rq_2 {w:World} {x r:Nat} (hx:x < 4294967296) (e:rtH 2 x = r):Calls Try.prog 71 #[.int .u32 (x:Int),.int .u64 2] w (fun e w'=>e = .returned (.int .u32 (r:Int)) ∧ w' = w):=by subst e;exact right_2 w x hx
theorem rq_6 {w:World} {x r:Nat} (hx:x < 4294967296) (e:rtH 6 x = r):Calls Try.prog 71 #[.int .u32 (x:Int),.int .u64 6] w (fun e w'=>e = .returned (.int .u32 (r:Int)) ∧ w' = w):=by subst e;exact right_6 w x hx
theorem rq_7 {w:World} {x r:Nat} (hx:x < 4294967296) (e:rtH 7 x = r):Calls Try.prog 71 #[.int .u32 (x:Int),.int .u64 7] w (fun e w'=>e = .returned (.int .u32 (r:Int)) ∧ w' = w):=by subst e;exact right_7 w x hx
theorem rq_11 {w:World} {x r:Nat} (hx:x < 4294967296) (e:rtH 11 x = r):Calls Try.prog 71 #[.int .u32 (x:Int),.int .u64 11] w (fun e w'=>e = .returned (.int .u32 (r:Int)) ∧ w' = w):=by subst e;exact right_11 w x hx
theorem rq_13 {w:World} {x r:Nat} (hx:x < 4294967296) (e:rtH 13 x = r):Calls Try.prog 71 #[.int .u32 (x:Int),.int .u64 13] w (fun e w'=>e = .returned (.int .u32 (r:Int)) ∧ w' = w):=by subst e;exact right_13 w x hx
theorem rq_17 {w:World} {x r:Nat} (hx:x < 4294967296) (e:rtH 17 x = r):Calls Try.prog 71 #[.int .u32 (x:Int),.int .u64 17] w (fun e w'=>e = .returned (.int .u32 (r:Int)) ∧ w' = w):=by subst e;exact right_17 w x hx
theorem rq_18 {w:World} {x r:Nat} (hx:x < 4294967296) (e:rtH 18 x = r):Calls Try.prog 71 #[.int .u32 (x:Int),.int .u64 18] w (fun e w'=>e = .returned (.int .u32 (r:Int)) ∧ w' = w):=by subst e;exact right_18 w x hx
theorem rq_19 {w:World} {x r:Nat} (hx:x < 4294967296) (e:rtH 19 x = r):Calls Try.prog 71 #[.int .u32 (x:Int),.int .u64 19] w (fun e w'=>e = .returned (.int .u32 (r:Int)) ∧ w' = w):=by subst e;exact right_19 w x hx
theorem rq_22 {w:World} {x r:Nat} (hx:x < 4294967296) (e:rtH 22 x = r):Calls Try.prog 71 #[.int .u32 (x:Int),.int .u64 22] w (fun e w'=>e = .returned (.int .u32 (r:Int)) ∧ w' = w):=by subst e;exact right_22 w x hx
theorem rq_25 {w:World} {x r:Nat} (hx:x < 4294967296) (e:rtH 25 x = r):Calls Try.prog 71 #[.int .u32 (x:Int),.int .u64 25] w (fun e w'=>e = .returned (.int .u32 (r:Int)) ∧ w' = w):=by subst e;exact right_25 w x hx
structure S3F (w:World) (g off:Nat) (l:List Nat) (i e e' ja jb xa xb s1 s2 s3:Nat):Prop where
 c1:w.cell? ⟨g,off + ja,none⟩ = some (.int .u32 (xa:Int))
 c2:w.cell? ⟨g,off + jb,none⟩ = some (.int .u32 (xb:Int))
 n1:IntKind.i64.wrap ((i:Int) - 7) = (ja:Int)
 n2:IntKind.i64.wrap ((i:Int) - 16) = (jb:Int)
 j1:(ja:Int) < (l.length:Int)
 j2:(jb:Int) < (l.length:Int)
 u1:IntKind.u32.wrap ((e':Int) + (xa:Int)) = (s1:Int)
 u2:IntKind.u32.wrap ((s1:Int) + (e:Int)) = (s2:Int)
 u3:IntKind.u32.wrap ((s2:Int) + (xb:Int)) = (s3:Int)
 r:a32H (a32H (a32H e' (l.getD (i - 7) 0)) e) (l.getD (i - 16) 0) = s3
 lt:s3 < 4294967296
theorem s3F {w:World} {g off:Nat} {l:List Nat} {i e e':Nat} (h:Sl w (some ⟨g,off,none⟩) (codU.row l)) (hl:Lt32 l) (hi:i = l.length) (h1:16 ≤ i) (hb:i < 64) :
  ∃ ja jb xa xb s1 s2 s3,S3F w g off l i e e' ja jb xa xb s1 s2 s3:=by
 have hc:∀ i (hi:i < l.length),w.cell? ⟨g,off + i,none⟩ = some (.int .u32 (l[i]:Int)):=fun i hi=>Sl.cell1 (C:=codU) rfl h i hi rfl
 refine ⟨i - 7,i - 16,l[i - 7]'(by omega),l[i - 16]'(by omega),_,_,_,⟨hc _ (by omega),hc _ (by omega),?_,?_,by omega,by omega,a32_int _ _,a32_int _ _,a32_int _ _,?_,a32_lt _ _⟩⟩
 ·rw [IntWalk.i64_in _ (by omega)];omega
 ·rw [IntWalk.i64_in _ (by omega)];omega
 ·rw [getD_at (by omega:i - 7 < l.length),getD_at (by omega:i - 16 < l.length)]
theorem exH_step {i:Nat} {w:List Nat} (h:i < 64):exH (64 - i) i w = exH (64 - (i + 1)) (i + 1) (w ++ [nxH w i]):=by
 rw [show 64 - i = (64 - (i + 1)) + 1 by omega];rfl
theorem bits_and_u32 (a b:Nat) (ha:a < 4294967296) (hb:b < 4294967296):bits .and .u32 (a:Int) (b:Int) = ((a &&& b:Nat):Int):=by
 have hx:a &&& b < 2 ^ 32:=Nat.lt_of_le_of_lt Nat.and_le_left (by omega)
 have h1:(BitVec.ofInt 32 (a:Int)).toNat = a:=by
  rw [BitVec.ofInt_natCast,BitVec.toNat_ofNat];exact Nat.mod_eq_of_lt (by omega)
 have h2:(BitVec.ofInt 32 (b:Int)).toNat = b:=by
  rw [BitVec.ofInt_natCast,BitVec.toNat_ofNat];exact Nat.mod_eq_of_lt (by omega)
 show IntKind.u32.wrap ((BitVec.ofInt 32 (a:Int) &&& BitVec.ofInt 32 (b:Int)).toNat:Int) = _
 rw [BitVec.toNat_and,h1,h2,wrU]
 omega
theorem xor32 {a b:Nat} (ha:a < 4294967296) (hb:b < 4294967296):a ^^^ b < 4294967296:=Nat.xor_lt_two_pow (n:=32) ha hb
theorem and32 {a:Nat} (b:Nat) (ha:a < 4294967296):a &&& b < 4294967296:=Nat.lt_of_le_of_lt Nat.and_le_left ha
structure Lt8 (s:S8H):Prop where
 a:s.a < 4294967296
 b:s.b < 4294967296
 c:s.c < 4294967296
 d:s.d < 4294967296
 e:s.e < 4294967296
 f:s.f < 4294967296
 g:s.g < 4294967296
 x:s.x < 4294967296
theorem len8 {l:List Nat} (h:l.length = 8):∃ h0 h1 h2 h3 h4 h5 h6 h7,l = [h0,h1,h2,h3,h4,h5,h6,h7]:=by
 match l,h with
 | [h0,h1,h2,h3,h4,h5,h6,h7],_=>exact ⟨_,_,_,_,_,_,_,_,rfl⟩
structure T1F (s:S8H) (kk ww r6 r11 r25 x1 x2 s1 m1 ne m2 ch s2 s3 s4:Nat):Prop where
 e6:rtH 6 s.e = r6
 e11:rtH 11 s.e = r11
 e25:rtH 25 s.e = r25
 b1:bits .xor .u32 (r6:Int) (r11:Int) = (x1:Int)
 b2:bits .xor .u32 (x1:Int) (r25:Int) = (x2:Int)
 u1:IntKind.u32.wrap ((s.x:Int) + (x2:Int)) = (s1:Int)
 b3:bits .and .u32 (s.e:Int) (s.f:Int) = (m1:Int)
 b4:bits .xor .u32 4294967295 (s.e:Int) = (ne:Int)
 b5:bits .and .u32 (ne:Int) (s.g:Int) = (m2:Int)
 b6:bits .xor .u32 (m1:Int) (m2:Int) = (ch:Int)
 u2:IntKind.u32.wrap ((s1:Int) + (ch:Int)) = (s2:Int)
 u3:IntKind.u32.wrap ((s2:Int) + (kk:Int)) = (s3:Int)
 u4:IntKind.u32.wrap ((s3:Int) + (ww:Int)) = (s4:Int)
 r:t1H s kk ww = s4
 lt:s4 < 4294967296
theorem t1F {s:S8H} (h:Lt8 s) (kk ww:Nat):∃ r6 r11 r25 x1 x2 s1 m1 ne m2 ch s2 s3 s4,T1F s kk ww r6 r11 r25 x1 x2 s1 m1 ne m2 ch s2 s3 s4:=by
 have a1:=rtH_lt 6 _ h.e
 have a2:=rtH_lt 11 _ h.e
 have a3:=rtH_lt 25 _ h.e
 have a4:=xor32 a1 a2
 have a5:4294967295 ^^^ s.e < 4294967296:=xor32 (by decide) h.e
 exact ⟨_,_,_,_,_,_,_,_,_,_,_,_,_,⟨rfl,rfl,rfl,bits_xor_u32 _ _ a1 a2,bits_xor_u32 _ _ a4 a3,a32_int _ _,bits_and_u32 _ _ h.e h.f,bits_xor_u32 4294967295 _ (by decide) h.e,bits_and_u32 _ _ a5 h.g,bits_xor_u32 _ _ (and32 _ h.e) (and32 _ a5),a32_int _ _,a32_int _ _,a32_int _ _,rfl,a32_lt _ _⟩⟩
structure T2F (s:S8H) (r2 r13 r22 y1 y2 p1 p2 q1 p3 q2 t2:Nat):Prop where
 e2:rtH 2 s.a = r2
 e13:rtH 13 s.a = r13
 e22:rtH 22 s.a = r22
 b1:bits .xor .u32 (r2:Int) (r13:Int) = (y1:Int)
 b2:bits .xor .u32 (y1:Int) (r22:Int) = (y2:Int)
 b3:bits .and .u32 (s.a:Int) (s.b:Int) = (p1:Int)
 b4:bits .and .u32 (s.a:Int) (s.c:Int) = (p2:Int)
 b5:bits .xor .u32 (p1:Int) (p2:Int) = (q1:Int)
 b6:bits .and .u32 (s.b:Int) (s.c:Int) = (p3:Int)
 b7:bits .xor .u32 (q1:Int) (p3:Int) = (q2:Int)
 u1:((y2:Int) + (q2:Int)) % 4294967296 = (t2:Int)
 r:t2H s = t2
 lt:t2 < 4294967296
theorem t2F {s:S8H} (h:Lt8 s):∃ r2 r13 r22 y1 y2 p1 p2 q1 p3 q2 t2,T2F s r2 r13 r22 y1 y2 p1 p2 q1 p3 q2 t2:=by
 have a1:=rtH_lt 2 _ h.a
 have a2:=rtH_lt 13 _ h.a
 have a3:=rtH_lt 22 _ h.a
 have b1:=and32 s.b h.a
 have b2:=and32 s.c h.a
 have b3:=and32 s.c h.b
 exact ⟨_,_,_,_,_,_,_,_,_,_,_,⟨rfl,rfl,rfl,bits_xor_u32 _ _ a1 a2,bits_xor_u32 _ _ (xor32 a1 a2) a3,bits_and_u32 _ _ h.a h.b,bits_and_u32 _ _ h.a h.c,bits_xor_u32 _ _ b1 b2,bits_and_u32 _ _ h.b h.c,bits_xor_u32 _ _ (xor32 b1 b2) b3,by rw [← wrU];exact a32_int _ _,rfl,a32_lt _ _⟩⟩
theorem Lt8.rd {s:S8H} (h:Lt8 s) (k w:Nat):Lt8 (rdH s k w):=⟨a32_lt _ _,h.a,h.b,h.c,a32_lt _ _,h.e,h.f,h.g⟩
theorem rsH_step {i:Nat} {ks ws:List Nat} {s:S8H} (h:i < 64):rsH (64 - i) i ks ws s = rsH (64 - (i + 1)) (i + 1) ks ws (rdH s (ks.getD i 0) (ws.getD i 0)):=by
 rw [show 64 - i = (64 - (i + 1)) + 1 by omega];rfl
theorem bxA_blk {w:World} {b:Nat} {x:ID} (h:bxA w b = some x):Blk w b 36 (bv x.1):=by
 have:=bxA_at h
 unfold Blk
 rw [this]
 simp only [aro,idA_eq]
theorem bxA_set {w:World} {b:Nat} {x:ID} (h:bxA w b = some x) (i:Nat) (y:UInt8) (x':ID) (hx:x'.1 = x.1.set i y):bxA (w.setCell ⟨b,i,none⟩ (.int .u8 (y.toNat:Int))) b = some x':=by
 have h1:=(bxA_blk h).set i (.int .u8 (y.toNat:Int))
 refine bxA_of ?_
 unfold Blk at h1
 rw [h1]
 unfold aro
 rw [idA_eq,hx]
 unfold bv
 rw [List.map_set]
 rfl
theorem take_set {α:Type} {l:List α} {i:Nat} {y:α} (hi:i < l.length):(l.set i y).take (i + 1) = l.take i ++ [y]:=by
 rw [List.take_succ_eq_append_getElem (by rw [List.length_set];exact hi),List.take_set_of_le (Nat.le_refl _),List.getElem_set_self]
def SmTo (w:World) (b:List UInt8) (e:Ending) (w':World):Prop:=e = .returned (encI (nameH b)) ∧ Fr noB w w'
def blkC (n:Nat):Code → Option Code
 | .block m c=>if m = n then some (.block m c) else blkC n c
 | .seq a b=>(blkC n a).or (blkC n b)
 | .cond _ a b=>(blkC n a).or (blkC n b)
 | .loop b=>blkC n b
 | .scope b=>blkC n b
 | _=>none
set_option maxRecDepth 100000 in
set_option maxHeartbeats 8000000 in
theorem sumB9 (w:World) (c:Code) (hcode:blkC 9 (Try.f48.body.getD .skip) = some c) (Q:Exit → Act → World → Prop) (P gw ow c9 i gk ok tc td kk ww:Nat) (tA:Option Addr) (l:List Nat) (s:S8H) (i1:(i:Int) < 64) (hl8:Lt8 s) (j1:(i:Int) < (l.length:Int))
  (c1:w.cell? ⟨gk,ok + i,none⟩ = some (.int .u32 (kk:Int))) (c2:w.cell? ⟨gw,ow + i,none⟩ = some (.int .u32 (ww:Int))) (c3:w.cell? ⟨P,1,none⟩ = some (.slice (some ⟨gk,ok,none⟩) 64 td)) (z1 z2:Nat) (hz1:z1 = a32H s.d (t1H s kk ww)) (hz2:z2 = a32H (t1H s kk ww) (t2H s))
  (u0 u1 u3 u4 u5 u6 u7 u8 u10 u11 u12 u13 u14 u24 u25 u26 u27 u28 u29 u30 u31 u32 u33 u34 u35 u36 u37 u38 u39 u40 u41 u42 u43 u44 u45 u46 u47 u48 u49 u50 u51 u52 u53 u54 u55 u56 u57 u58 u59 u60 u61 u62 u63 u64 u65 u66 u67 u68 u69 u70 u71 u72 u73 u74 u75 u76 u77 u78 u79 u80 u81 u82 u83 u84 u85 u86 u87 u88 u89 u90 u91 u92 u93 u94 u95 u96 u97 u98 u99 u100 u101 u102 u103 u104 u105 u106 u107 u108 u109 u110 u111 u112 u113 u114 u115 u116 u117 u118 u119 u120 u121 u122 u123 u124 u125 u126 u127 u128 u129 u130 u131 u132 u133 u134 u135 u136 u137 u138 u139 u140 u141 u142 u143 u144 u145 u146 u147 u148 u149 u150 u151 u152 u153 u154 u155 u156 u157 u158 u159 u160 u161 u162 u163 u164 u165 u166 u167 u168 u169 u170 u171 u172 u173 u174 u175 u176 u177 u178 u179 u180 u181 u182 u183 u184 u185 u186 u187 u188 u189 u190 u191 u192 u193 u194 u195 u196 u197 u198 u199 u200 u201 u202 u203 u204 u205 u206 u207 u208 u209 u210 u211 u212 u213 u214 u215 u216 u217 u218 u219 u220 u221 u222 u223 u224 u225 u226 u227 u228 u229 u230 u231 u232 u233 u234 u235 u236 u237 u238 u239 u240 u241 u242 u243 u244 u245 u246 u247 u248 u249 u250 u251 u252 u253 u254 u255 u256 u257 u258 u259 u260 u261 u262 u263 u264 u265 u266 u267 u268 u269 u270 u271 u272 u273 u274 u275 u276 u277 u278 u279 u280 u281 u282 u283 u284 u285 u286 u287 u288 u289 u290 u291 u292 u293 u294 u295 u296 u297 u298 u299 u300 u301 u302:Value) (hQ:∀ (v24 v25 v180 v181 v182 v183 v184 v185 v186 v187 v188 v189 v190 v191 v192 v193 v194 v195 v196 v197 v198 v199 v200 v201 v202 v203 v204 v205 v206 v207 v208 v209 v210 v211 v212 v213 v214 v215 v216 v217 v218 v219 v220 v221 v222 v223 v224 v225 v226 v227 v228 v229 v230 v231 v232 v233 v234 v235 v236 v237 v238 v239 v240 v241:Value) (w':World),Fr noB w w' → Q .normal ⟨#[u0,u1,.pointer (some ⟨P,0,none⟩),u3,u4,u5,u6,u7,u8,.slice (some ⟨gw,ow,none⟩) l.length c9,u10,u11,u12,u13,u14,.int .u32 (z2:Int),.int .u32 (s.a:Int),.int .u32 (s.b:Int),.int .u32 (s.c:Int),.int .u32 (z1:Int),.int .u32 (s.e:Int),.int .u32 (s.f:Int),.int .u32 (s.g:Int),.int .i64 (i:Int),v24,v25,u26,u27,u28,u29,u30,u31,u32,u33,u34,u35,u36,u37,u38,u39,u40,u41,u42,u43,u44,u45,u46,u47,u48,u49,u50,u51,u52,u53,u54,u55,u56,u57,u58,u59,u60,u61,u62,u63,u64,u65,u66,u67,u68,u69,u70,u71,u72,u73,u74,u75,u76,u77,u78,u79,u80,u81,u82,u83,u84,u85,u86,u87,u88,u89,u90,u91,u92,u93,u94,u95,u96,u97,u98,u99,u100,u101,u102,u103,u104,u105,u106,u107,u108,u109,u110,u111,u112,u113,u114,u115,u116,u117,u118,u119,u120,u121,u122,u123,u124,u125,u126,u127,u128,u129,u130,u131,u132,u133,u134,u135,u136,u137,u138,u139,u140,u141,u142,u143,u144,u145,u146,u147,u148,u149,u150,u151,u152,u153,u154,u155,u156,u157,u158,u159,u160,u161,u162,u163,u164,u165,u166,u167,u168,u169,u170,u171,u172,u173,u174,u175,u176,u177,u178,u179,v180,v181,v182,v183,v184,v185,v186,v187,v188,v189,v190,v191,v192,v193,v194,v195,v196,v197,v198,v199,v200,v201,v202,v203,v204,v205,v206,v207,v208,v209,v210,v211,v212,v213,v214,v215,v216,v217,v218,v219,v220,v221,v222,v223,v224,v225,v226,v227,v228,v229,v230,v231,v232,v233,v234,v235,v236,v237,v238,v239,v240,v241,u242,u243,u244,u245,u246,u247,u248,u249,u250,u251,u252,u253,u254,u255,u256,u257,u258,u259,u260,u261,u262,u263,u264,u265,u266,u267,u268,u269,u270,u271,u272,u273,u274,u275,u276,u277,u278,u279,u280,u281,u282,u283,u284,u285,u286,u287,u288,u289,u290,u291,u292,u293,u294,u295,u296,u297,u298,u299,u300,u301,u302],[]⟩ w'):c.wp Try.prog Q ⟨#[u0,u1,.pointer (some ⟨P,0,none⟩),u3,u4,u5,u6,u7,u8,.slice (some ⟨gw,ow,none⟩) l.length c9,u10,u11,u12,u13,u14,.int .u32 (s.a:Int),.int .u32 (s.b:Int),.int .u32 (s.c:Int),.int .u32 (s.d:Int),.int .u32 (s.e:Int),.int .u32 (s.f:Int),.int .u32 (s.g:Int),.int .u32 (s.x:Int),.int .i64 (i:Int),u24,u25,u26,u27,u28,u29,u30,u31,u32,u33,u34,u35,u36,u37,u38,u39,u40,u41,u42,u43,u44,u45,u46,u47,u48,u49,u50,u51,u52,u53,u54,u55,u56,u57,u58,u59,u60,u61,u62,u63,u64,u65,u66,u67,u68,u69,u70,u71,u72,u73,u74,u75,u76,u77,u78,u79,u80,u81,u82,u83,u84,u85,u86,u87,u88,u89,u90,u91,u92,u93,u94,u95,u96,u97,u98,u99,u100,u101,u102,u103,u104,u105,u106,u107,u108,u109,u110,u111,u112,u113,u114,u115,u116,u117,u118,u119,u120,u121,u122,u123,u124,u125,u126,u127,u128,u129,u130,u131,u132,u133,u134,u135,u136,u137,u138,u139,u140,u141,u142,u143,u144,u145,u146,u147,u148,u149,u150,u151,u152,u153,u154,u155,u156,u157,u158,u159,u160,u161,u162,u163,u164,u165,u166,u167,u168,u169,u170,u171,u172,u173,u174,u175,u176,u177,u178,u179,u180,u181,u182,u183,u184,u185,u186,u187,u188,u189,u190,u191,u192,u193,u194,u195,u196,u197,u198,u199,u200,u201,u202,u203,u204,u205,u206,u207,u208,u209,u210,u211,u212,u213,u214,u215,u216,u217,u218,u219,u220,u221,u222,u223,u224,u225,u226,u227,u228,u229,u230,u231,u232,u233,u234,u235,u236,u237,u238,u239,u240,u241,u242,u243,u244,u245,u246,u247,u248,u249,u250,u251,u252,u253,u254,u255,u256,u257,u258,u259,u260,u261,u262,u263,u264,u265,u266,u267,u268,u269,u270,u271,u272,u273,u274,u275,u276,u277,u278,u279,u280,u281,u282,u283,u284,u285,u286,u287,u288,u289,u290,u291,u292,u293,u294,u295,u296,u297,u298,u299,u300,u301,u302],[]⟩ w:=by
 simp [blkC,Try.f48] at hcode
 subst hcode
 obtain ⟨r6,r11,r25,x1,x2,s1,m1,ne,m2,ch,s2,s3,s4,ht1⟩:=t1F hl8 kk ww
 obtain ⟨r2,r13,r22,y1,y2,p1,p2,q1,p3,q2,t2,ht2⟩:=t2F hl8
 rw [ht1.r] at hz1 hz2
 rw [ht2.r] at hz2
 have HZ:=Lib.hid (And.intro hz1 hz2)
 have HQ:=Lib.hid hQ
 have HL8:=Lib.hid hl8
 have HT1:=Lib.hid ht1
 have HT2:=Lib.hid ht2
 have R6:∀ W,Calls Try.prog 71 #[.int .u32 (s.e:Int),.int .u64 6] W (fun e w'=>e = .returned (.int .u32 (r6:Int)) ∧ w' = W):=fun W=>rq_6 hl8.e ht1.e6
 have R11:∀ W,Calls Try.prog 71 #[.int .u32 (s.e:Int),.int .u64 11] W (fun e w'=>e = .returned (.int .u32 (r11:Int)) ∧ w' = W):=fun W=>rq_11 hl8.e ht1.e11
 have R25:∀ W,Calls Try.prog 71 #[.int .u32 (s.e:Int),.int .u64 25] W (fun e w'=>e = .returned (.int .u32 (r25:Int)) ∧ w' = W):=fun W=>rq_25 hl8.e ht1.e25
 obtain ⟨b1,b2,b3,b4⟩:_ ∧ _ ∧ _ ∧ _:=⟨ht1.b1,ht1.b2,ht1.b3,ht1.b4⟩
 obtain ⟨b5,b6,u1',u2',u3',u4'⟩:_ ∧ _ ∧ _ ∧ _ ∧ _ ∧ _:=⟨ht1.b5,ht1.b6,ht1.u1,ht1.u2,ht1.u3,ht1.u4⟩
 have b4:bits .xor .u32 (if IntKind.u32.signed = true then -1 else IntKind.u32.max) (s.e:Int) = (ne:Int):=b4
 clear ht1 ht2 hl8 hQ hz1 hz2
 go_upto_region 26 with fail
 go_quiet ((go_at_call 71;first | with_reducible exact Calls.quiet_of_same (R6 _) | with_reducible exact Calls.quiet_of_same (R11 _) | with_reducible exact Calls.quiet_of_same (R25 _)))
 clear c1 c2 c3 R6 R11 R25 b1 b2 b3 b4 b5 b6 u1' u2' u3' u4'
 have HF8:=Lib.hid ((Fr.refl noB w).drewN nq)
 generalize w.drewN nq = wq2 at HF8 ⊢
 have R2:∀ W,Calls Try.prog 71 #[.int .u32 (s.a:Int),.int .u64 2] W (fun e w'=>e = .returned (.int .u32 (r2:Int)) ∧ w' = W):=fun W=>rq_2 HL8.out.a HT2.out.e2
 have R13:∀ W,Calls Try.prog 71 #[.int .u32 (s.a:Int),.int .u64 13] W (fun e w'=>e = .returned (.int .u32 (r13:Int)) ∧ w' = W):=fun W=>rq_13 HL8.out.a HT2.out.e13
 have R22:∀ W,Calls Try.prog 71 #[.int .u32 (s.a:Int),.int .u64 22] W (fun e w'=>e = .returned (.int .u32 (r22:Int)) ∧ w' = W):=fun W=>rq_22 HL8.out.a HT2.out.e22
 have ht2:=HT2.out
 obtain ⟨b1,b2,b3,b4⟩:_ ∧ _ ∧ _ ∧ _:=⟨ht2.b1,ht2.b2,ht2.b3,ht2.b4⟩
 obtain ⟨b5,b6,b7,e1⟩:_ ∧ _ ∧ _ ∧ _:=⟨ht2.b5,ht2.b6,ht2.b7,ht2.u1⟩
 clear ht2
 go_upto_region 28 with (go_at_call 71;(first | with_reducible refine (R2 _).mono ?_ | with_reducible refine (R13 _).mono ?_ | with_reducible refine (R22 _).mono ?_);rintro e w8 ⟨rfl,rfl⟩)
 rw [e1]
 clear R2 R13 R22 b1 b2 b3 b4 b5 b6 b7 e1
 have e1:((s.d:Int) + (s4:Int)) % 4294967296 = (z1:Int):=by rw [HZ.out.1,← wrU];exact a32_int _ _
 have e2:((s4:Int) + (t2:Int)) % 4294967296 = (z2:Int):=by rw [HZ.out.2,← wrU];exact a32_int _ _
 go_wp2_with fail
 rw [e1,e2]
 exact HQ.out _ _ _ _ _ _ _ _ _ _ _ _ _ _ _ _ _ _ _ _ _ _ _ _ _ _ _ _ _ _ _ _ _ _ _ _ _ _ _ _ _ _ _ _ _ _ _ _ _ _ _ _ _ _ _ _ _ _ _ _ _ _ _ _ _ HF8.out
end Go.Proofs.Ytahllkifmmjbdaa
