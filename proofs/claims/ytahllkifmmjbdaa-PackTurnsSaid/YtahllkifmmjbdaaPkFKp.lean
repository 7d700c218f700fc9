/- Contract: pack.base (nobody outside). -/
import Derived.Test.YtahllkifmmjbdaaPkEKp
set_option linter.unusedVariables false
set_option linter.unusedSimpArgs false
namespace Go.Proofs.Ytahllkifmmjbdaa
open Go.RowKit Go.Maps Go.Sort
set_option maxRecDepth 100000
def errPk:Except Nat PeP → Nat
 | .error e=>e
 | .ok _=>0
def BaseTo (w:World) (p:Nat) (r:Except Nat PeP × RS) (Q:Nat → Prop) (e:Ending) (w':World):Prop :=
 ∃ (x:PeW) (y:ID),e = .returned (.tuple #[.agg (codPe.cs x).toArray,encI y,.int .i64 (errPk r.1:Int)]) ∧ Rdr w' p r.2 Q ∧ Fr (oneB p) w w' ∧ ∀ on,r.1 = .ok on → PeIn w' x on
theorem SlT.rdr {w w':World} {p:Nat} {s:RS} {Q:Nat → Prop} {A:Option Addr} {l:List UInt8} (hs:SlT w A l) (hr:Rdr w p s Q) (f:Fr (oneB p) w w'):SlT w' A l:=by
 obtain ⟨B,c,hb,_⟩:=hr
 exact hs.frT f (no8 hb (by decide))
theorem PeIn.frp {w w':World} {p:Nat} {s:RS} {Q:Nat → Prop} {r:PeW} {x:PeP} (h:PeIn w r x) (hr:Rdr w p s Q) (f:Fr (oneB p) w w'):PeIn w' r x:=⟨h.len,h.cap,h.sl.rdr hr f,h.bd,h.ch,h.lo,h.nil⟩
@[simp] theorem neq_nilF (w:World):(binOp .neq 35 .nilFunc .nilFunc).run Try.prog w = .ok (.bool false) w:=by kernel_rfl
set_option maxHeartbeats 8000000 in
theorem base2_any (w:World) (p:Nat) (s:RS) (Q:Nat → Prop) (h:Rdr w p s Q) (hQp:¬ Q p) (hQw:∀ b,Q b → b < w.heap.size) (hlen:s.1.length ≤ 100000000000) (E:Value) (ahead:List PeP) :
  Calls Try.prog 55 #[.pointer (some ⟨p,0,none⟩),.int .i64 2,E,.nilFunc] w (BaseTo w p (baseF s 2 ahead) Q):=by
 obtain ⟨R,hR⟩:∃ R,R = w.heap.size:=⟨_,rfl⟩
 obtain ⟨U,hU⟩:∃ U,U = w.heap.size + 1:=⟨_,rfl⟩
 have k1:(w.alloc (.cells #[.slice none 0 0,.int .i64 0] 53)).heap.size = U:=by rw [hU];simp
 have f1:Fr noB w (w.alloc (.cells #[.slice none 0 0,.int .i64 0] 53)):=(Fr.refl noB w).alloc _
 have f2:Fr noB (w.alloc (.cells #[.slice none 0 0,.int .i64 0] 53)) ((w.alloc (.cells #[.slice none 0 0,.int .i64 0] 53)).alloc (ido zID)):=(Fr.refl noB _).alloc _
 have b1:Blk ((w.alloc (.cells #[.slice none 0 0,.int .i64 0] 53)).alloc (ido zID)) R 53 (codPe.cs ⟨none,0,0,0⟩):=by
  have:=Blk.new w 53 (codPe.cs ⟨none,0,0,0⟩)
  rw [← hR] at this
  exact this.fr f2 (by simp [noB])
 have u1:bxI ((w.alloc (.cells #[.slice none 0 0,.int .i64 0] 53)).alloc (ido zID)) U = some zID:=by rw [← k1];exact bxI_new _ _
 have HRU:=Lib.hid (show U = R + 1 ∧ R = w.heap.size by omega)
 have HF1:=Lib.hid (f1.step0 f2)
 have HB1:=Lib.hid b1
 have HU1:=Lib.hid u1
 have HR1:=Lib.hid (h.fr (f1.step0 f2) (by simp [noB]) (fun _ _=>by simp [noB]))
 have HP:=Lib.hid h.lt
 have HQW:=Lib.hid hQw
 have HL:=Lib.hid hlen
 clear f1 f2 b1 u1 h hQw hlen k1
 go_enter Try.func55,Try.ntmps55
 go_upto_region 1 with fail
 rw [← hU,← hR]
 clear hU hR
 generalize (w.alloc (.cells #[.slice none 0 0,.int .i64 0] 53)).alloc (ido zID) = w1 at HF1 HB1 HU1 HR1 ⊢
 obtain ⟨r,hr⟩:∃ r,r = rdId s:=⟨_,rfl⟩
 have HRD:=Lib.hid hr
 have hr2:baseF s 2 ahead = if r.2.2 = true then (.error 20,r.2) else (.error 70,r.2):=by rw [hr];rfl
 have HB2:=Lib.hid hr2
 clear hr hr2
 go_upto_region 9 with (go_at_call 72;refine (rid_any w1 p s Q HR1.out hQp (fun b hb=>by have:=HQW.out b hb;have:=HF1.out.size;omega) (by have:=HL.out;omega)).mono ?_;rw [← HRD.out];rintro e w2 ⟨rfl,hr2,hf2⟩;have HR2:=Lib.hid hr2;have HF2:=Lib.hid hf2;clear hr2 hf2)
 have fv:Fr noB w2 (putB (w2.alloc (ido zID)) w2.heap.size r.1):=((Fr.refl noB w2).alloc (ido zID)).trans (putB_fr (bxI_new w2 zID) r.1).1 (fun b hb e=>by have e:b = w2.heap.size:=e;omega)
 have HF3:=Lib.hid (HF2.out.step0 fv)
 have HR3:=Lib.hid (HR2.out.fr fv (by simp [noB]) (fun _ _=>by simp [noB]))
 generalize putB (w2.alloc (ido zID)) w2.heap.size r.1 = w3 at fv HF3 HR3 ⊢
 clear fv
 have hb3:=HB1.out.fr HF3.out (fun e=>by have e:R = p:=e;have:=HRU.out;have:=HP.out;omega)
 have hu3:=bxI_fr HU1.out HF3.out (fun e=>by have e:U = p:=e;have:=HRU.out;have:=HP.out;omega)
 have c0:w3.cell? ⟨R,0,none⟩ = some (.slice none 0 0):=hb3.cell 0
 have c1:w3.cell? ⟨R,1,none⟩ = some (.int .i64 0):=hb3.cell 1
 have z0:=hb3.frozen 0
 have z1:=hb3.frozen 1
 have hb4:=(hb3.set 0 (.slice none 0 0)).set 1 (.int .i64 0)
 have f4:Fr (oneB R) w3 ((w3.setCell ⟨R,0,none⟩ (.slice none 0 0)).setCell ⟨R,1,none⟩ (.int .i64 0)):=((Fr.refl (oneB R) w3).setCell (p:=⟨R,0,none⟩) (fun _=>rfl) _).setCell (p:=⟨R,1,none⟩) (fun _=>rfl) _
 have hu4:=bxI_fr hu3 f4 (fun e=>by have e:U = R:=e;have:=HRU.out;omega)
 obtain ⟨g1,g2,g3⟩:=putB_fr hu4 zID
 have HB5:=Lib.hid (hb4.fr g1 (fun e=>by have e:R = U:=e;have:=HRU.out;omega))
 have HU5:=Lib.hid g3
 have HR5:=Lib.hid ((HR3.out.fr f4 (fun e=>by have e:p = R:=e;have:=HRU.out;have:=HP.out;omega) (fun b hb e=>by have e:b = R:=e;have:=HQW.out b hb;have:=HRU.out;omega)).fr g1 (fun e=>by have e:p = U:=e;have:=HRU.out;have:=HP.out;omega) (fun b hb e=>by have e:b = U:=e;have:=HQW.out b hb;have:=HRU.out;omega))
 have HF5:=Lib.hid (((HF1.out.any (M:=oneB p)).trans HF3.out (fun b hb e=>e)).trans (M':=fun b=>b = R ∨ b = U) ((f4.mono (fun b h=>.inl h)).trans (g1.mono (fun b h=>(.inr h:b = R ∨ b = U))) (fun b hb h=>h)) (fun b hb e=>by have:=HRU.out;omega))
 clear hb3 hb4 f4 g1 g2 g3
 cases hrb:r.2.2 with
 | true =>
  have HE:=Lib.hid (show baseF s 2 ahead = (.error 20,r.2) by rw [HB2.out,if_pos hrb])
  go_wp2_with (go_at_call 31;refine (good_any _ p r.2 Q HR3.out).mono ?_;rintro e w8 ⟨rfl,h8⟩;subst h8;rw [hrb])
  refine bodyPost_ret (ret_ein rfl _ _ R U ⟨none,0,0,0⟩ zID _ rfl rfl rfl HB5.out HU5.out) rfl ?_
  exact ⟨⟨none,0,0,0⟩,zID,by rw [HE.out];rfl,by rw [HE.out];exact HR5.out,HF5.out,fun on h=>by rw [HE.out] at h;cases h⟩
 | false =>
  have HE:=Lib.hid (show baseF s 2 ahead = (.error 70,r.2) by rw [HB2.out,if_neg (by rw [hrb];exact Bool.false_ne_true)])
  go_wp2_with (go_at_call 31;refine (good_any _ p r.2 Q HR3.out).mono ?_;rintro e w8 ⟨rfl,h8⟩;subst h8;rw [hrb])
  refine bodyPost_ret (ret_ein rfl _ _ R U ⟨none,0,0,0⟩ zID _ rfl rfl rfl HB5.out HU5.out) rfl ?_
  exact ⟨⟨none,0,0,0⟩,zID,by rw [HE.out];rfl,by rw [HE.out];exact HR5.out,HF5.out,fun on h=>by rw [HE.out] at h;cases h⟩
set_option maxHeartbeats 8000000 in
theorem base1_any (w:World) (p:Nat) (s:RS) (Q:Nat → Prop) (h:Rdr w p s Q) (hQp:¬ Q p) (hQw:∀ b,Q b → b < w.heap.size) (hlen:s.1.length ≤ 100000000000) (A:Option Addr) (n c:Nat) (rs:List PeW) (ahead:List PeP) (hn:rs.length = n) (hs:Sl w A (codPe.row rs)) (hX:EsIn w rs ahead) (hA:Off A (fun b=>¬ oneB p b)) (hb:rs.length ≤ 65535) :
  Calls Try.prog 55 #[.pointer (some ⟨p,0,none⟩),.int .i64 1,.slice A n c,.nilFunc] w (BaseTo w p (baseF s 1 ahead) Q):=by
 subst hn
 have HS:=Lib.hid hs
 have HX:=Lib.hid hX
 have H0:=Lib.hid h
 have HA:=Lib.hid hA
 have HLE:=Lib.hid (And.intro hb hX.len)
 clear hs hX hA hb
 obtain ⟨R,hR⟩:∃ R,R = w.heap.size:=⟨_,rfl⟩
 obtain ⟨U,hU⟩:∃ U,U = w.heap.size + 1:=⟨_,rfl⟩
 have k1:(w.alloc (.cells #[.slice none 0 0,.int .i64 0] 53)).heap.size = U:=by rw [hU];simp
 have f1:Fr noB w (w.alloc (.cells #[.slice none 0 0,.int .i64 0] 53)):=(Fr.refl noB w).alloc _
 have f2:Fr noB (w.alloc (.cells #[.slice none 0 0,.int .i64 0] 53)) ((w.alloc (.cells #[.slice none 0 0,.int .i64 0] 53)).alloc (ido zID)):=(Fr.refl noB _).alloc _
 have b1:Blk ((w.alloc (.cells #[.slice none 0 0,.int .i64 0] 53)).alloc (ido zID)) R 53 (codPe.cs ⟨none,0,0,0⟩):=by
  have:=Blk.new w 53 (codPe.cs ⟨none,0,0,0⟩)
  rw [← hR] at this
  exact this.fr f2 (by simp [noB])
 have u1:bxI ((w.alloc (.cells #[.slice none 0 0,.int .i64 0] 53)).alloc (ido zID)) U = some zID:=by rw [← k1];exact bxI_new _ _
 have HRU:=Lib.hid (show U = R + 1 ∧ R = w.heap.size by omega)
 have HF1:=Lib.hid (f1.step0 f2)
 have HB1:=Lib.hid b1
 have HU1:=Lib.hid u1
 have HR1:=Lib.hid (h.fr (f1.step0 f2) (by simp [noB]) (fun _ _=>by simp [noB]))
 have HP:=Lib.hid h.lt
 have HQW:=Lib.hid hQw
 have HL:=Lib.hid hlen
 clear f1 f2 b1 u1 h hQw hlen k1
 go_enter Try.func55,Try.ntmps55
 go_upto_region 1 with fail
 rw [← hU,← hR]
 clear hU hR
 generalize (w.alloc (.cells #[.slice none 0 0,.int .i64 0] 53)).alloc (ido zID) = w1 at HF1 HB1 HU1 HR1 ⊢
 obtain ⟨k,s',hk⟩:∃ k s',rdNum 65535 s = (k,s'):=⟨_,_,rfl⟩
 have HK:=Lib.hid hk
 have HKB:=Lib.hid (show k ≤ 65535 by have:=(rdNum_bd 65535 s).1;rw [hk] at this;exact this)
 have hr2:baseF s 1 ahead = if s'.2 = true ∨ k < 1 then (.error 20,s') else if ahead.length < k then (.error 70,s') else (.ok (ahead.getD (ahead.length - k) ⟨[],0⟩),s'):=by unfold baseF;rw [hk];rfl
 have HB2:=Lib.hid hr2
 clear hk hr2
 go_upto_region 3 with (go_at_call 30;refine (num_eq w1 p s Q 65535 (by decide) HR1.out (by have:=HL.out;omega) k s' HK.out).mono ?_;rintro e w3 ⟨rfl,hr2,hf2⟩;have HR3:=Lib.hid hr2;have HF3:=Lib.hid hf2;clear hr2 hf2)
 cases hrb:s'.2 with
 | true =>
  have HE:=Lib.hid (show baseF s 1 ahead = (.error 20,s') by rw [HB2.out,if_pos (.inl hrb)])
  have hb3:=HB1.out.fr HF3.out (fun e=>by have e:R = p:=e;have:=HRU.out;have:=HP.out;omega)
  have hu3:=bxI_fr HU1.out HF3.out (fun e=>by have e:U = p:=e;have:=HRU.out;have:=HP.out;omega)
  have c0:w3.cell? ⟨R,0,none⟩ = some (.slice none 0 0):=hb3.cell 0
  have c1:w3.cell? ⟨R,1,none⟩ = some (.int .i64 0):=hb3.cell 1
  have z0:=hb3.frozen 0
  have z1:=hb3.frozen 1
  have hb4:=(hb3.set 0 (.slice none 0 0)).set 1 (.int .i64 0)
  have f4:Fr (oneB R) w3 ((w3.setCell ⟨R,0,none⟩ (.slice none 0 0)).setCell ⟨R,1,none⟩ (.int .i64 0)):=((Fr.refl (oneB R) w3).setCell (p:=⟨R,0,none⟩) (fun _=>rfl) _).setCell (p:=⟨R,1,none⟩) (fun _=>rfl) _
  have hu4:=bxI_fr hu3 f4 (fun e=>by have e:U = R:=e;have:=HRU.out;omega)
  obtain ⟨g1,g2,g3⟩:=putB_fr hu4 zID
  have HB5:=Lib.hid (hb4.fr g1 (fun e=>by have e:R = U:=e;have:=HRU.out;omega))
  have HU5:=Lib.hid g3
  have HR5:=Lib.hid ((HR3.out.fr f4 (fun e=>by have e:p = R:=e;have:=HRU.out;have:=HP.out;omega) (fun b hb e=>by have e:b = R:=e;have:=HQW.out b hb;have:=HRU.out;omega)).fr g1 (fun e=>by have e:p = U:=e;have:=HRU.out;have:=HP.out;omega) (fun b hb e=>by have e:b = U:=e;have:=HQW.out b hb;have:=HRU.out;omega))
  have HF5:=Lib.hid (((HF1.out.any (M:=oneB p)).trans HF3.out (fun b hb e=>e)).trans (M':=fun b=>b = R ∨ b = U) ((f4.mono (fun b h=>.inl h)).trans (g1.mono (fun b h=>(.inr h:b = R ∨ b = U))) (fun b hb h=>h)) (fun b hb e=>by have:=HRU.out;omega))
  clear hb3 hb4 f4 g1 g2 g3
  go_wp2_with (go_at_call 31;refine (good_any _ p s' Q HR3.out).mono ?_;rintro e w8 ⟨rfl,h8⟩;subst h8;rw [hrb])
  refine bodyPost_ret (ret_ein rfl _ _ R U ⟨none,0,0,0⟩ zID _ rfl rfl rfl HB5.out HU5.out) rfl ?_
  exact ⟨⟨none,0,0,0⟩,zID,by rw [HE.out];rfl,by rw [HE.out];exact HR5.out,HF5.out,fun on h=>by rw [HE.out] at h;cases h⟩
 | false =>
  by_cases h1:k < 1
  ·have i1:(k:Int) < 1:=by omega
   have HE:=Lib.hid (show baseF s 1 ahead = (.error 20,s') by rw [HB2.out,if_pos (.inr h1)])
   clear h1
   have hb3:=HB1.out.fr HF3.out (fun e=>by have e:R = p:=e;have:=HRU.out;have:=HP.out;omega)
   have hu3:=bxI_fr HU1.out HF3.out (fun e=>by have e:U = p:=e;have:=HRU.out;have:=HP.out;omega)
   have c0:w3.cell? ⟨R,0,none⟩ = some (.slice none 0 0):=hb3.cell 0
   have c1:w3.cell? ⟨R,1,none⟩ = some (.int .i64 0):=hb3.cell 1
   have z0:=hb3.frozen 0
   have z1:=hb3.frozen 1
   have hb4:=(hb3.set 0 (.slice none 0 0)).set 1 (.int .i64 0)
   have f4:Fr (oneB R) w3 ((w3.setCell ⟨R,0,none⟩ (.slice none 0 0)).setCell ⟨R,1,none⟩ (.int .i64 0)):=((Fr.refl (oneB R) w3).setCell (p:=⟨R,0,none⟩) (fun _=>rfl) _).setCell (p:=⟨R,1,none⟩) (fun _=>rfl) _
   have hu4:=bxI_fr hu3 f4 (fun e=>by have e:U = R:=e;have:=HRU.out;omega)
   obtain ⟨g1,g2,g3⟩:=putB_fr hu4 zID
   have HB5:=Lib.hid (hb4.fr g1 (fun e=>by have e:R = U:=e;have:=HRU.out;omega))
   have HU5:=Lib.hid g3
   have HR5:=Lib.hid ((HR3.out.fr f4 (fun e=>by have e:p = R:=e;have:=HRU.out;have:=HP.out;omega) (fun b hb e=>by have e:b = R:=e;have:=HQW.out b hb;have:=HRU.out;omega)).fr g1 (fun e=>by have e:p = U:=e;have:=HRU.out;have:=HP.out;omega) (fun b hb e=>by have e:b = U:=e;have:=HQW.out b hb;have:=HRU.out;omega))
   have HF5:=Lib.hid (((HF1.out.any (M:=oneB p)).trans HF3.out (fun b hb e=>e)).trans (M':=fun b=>b = R ∨ b = U) ((f4.mono (fun b h=>.inl h)).trans (g1.mono (fun b h=>(.inr h:b = R ∨ b = U))) (fun b hb h=>h)) (fun b hb e=>by have:=HRU.out;omega))
   clear hb3 hb4 f4 g1 g2 g3
   go_wp2_with (go_at_call 31;refine (good_any _ p s' Q HR3.out).mono ?_;rintro e w8 ⟨rfl,h8⟩;subst h8;rw [hrb])
   refine bodyPost_ret (ret_ein rfl _ _ R U ⟨none,0,0,0⟩ zID _ rfl rfl rfl HB5.out HU5.out) rfl ?_
   exact ⟨⟨none,0,0,0⟩,zID,by rw [HE.out];rfl,by rw [HE.out];exact HR5.out,HF5.out,fun on h=>by rw [HE.out] at h;cases h⟩
  ·have i1:¬ (k:Int) < 1:=by omega
   by_cases h2:rs.length < k
   ·have i2:(rs.length:Int) < (k:Int):=by omega
    have HE:=Lib.hid (show baseF s 1 ahead = (.error 70,s') by rw [HB2.out,if_neg (by rw [hrb];simp;omega),if_pos (by rw [← HLE.out.2];exact h2)])
    clear h1 h2
    have hb3:=HB1.out.fr HF3.out (fun e=>by have e:R = p:=e;have:=HRU.out;have:=HP.out;omega)
    have hu3:=bxI_fr HU1.out HF3.out (fun e=>by have e:U = p:=e;have:=HRU.out;have:=HP.out;omega)
    have c0:w3.cell? ⟨R,0,none⟩ = some (.slice none 0 0):=hb3.cell 0
    have c1:w3.cell? ⟨R,1,none⟩ = some (.int .i64 0):=hb3.cell 1
    have z0:=hb3.frozen 0
    have z1:=hb3.frozen 1
    have hb4:=(hb3.set 0 (.slice none 0 0)).set 1 (.int .i64 0)
    have f4:Fr (oneB R) w3 ((w3.setCell ⟨R,0,none⟩ (.slice none 0 0)).setCell ⟨R,1,none⟩ (.int .i64 0)):=((Fr.refl (oneB R) w3).setCell (p:=⟨R,0,none⟩) (fun _=>rfl) _).setCell (p:=⟨R,1,none⟩) (fun _=>rfl) _
    have hu4:=bxI_fr hu3 f4 (fun e=>by have e:U = R:=e;have:=HRU.out;omega)
    obtain ⟨g1,g2,g3⟩:=putB_fr hu4 zID
    have HB5:=Lib.hid (hb4.fr g1 (fun e=>by have e:R = U:=e;have:=HRU.out;omega))
    have HU5:=Lib.hid g3
    have HR5:=Lib.hid ((HR3.out.fr f4 (fun e=>by have e:p = R:=e;have:=HRU.out;have:=HP.out;omega) (fun b hb e=>by have e:b = R:=e;have:=HQW.out b hb;have:=HRU.out;omega)).fr g1 (fun e=>by have e:p = U:=e;have:=HRU.out;have:=HP.out;omega) (fun b hb e=>by have e:b = U:=e;have:=HQW.out b hb;have:=HRU.out;omega))
    have HF5:=Lib.hid (((HF1.out.any (M:=oneB p)).trans HF3.out (fun b hb e=>e)).trans (M':=fun b=>b = R ∨ b = U) ((f4.mono (fun b h=>.inl h)).trans (g1.mono (fun b h=>(.inr h:b = R ∨ b = U))) (fun b hb h=>h)) (fun b hb e=>by have:=HRU.out;omega))
    clear hb3 hb4 f4 g1 g2 g3
    go_wp2_with (go_at_call 31;refine (good_any _ p s' Q HR3.out).mono ?_;rintro e w8 ⟨rfl,h8⟩;subst h8;rw [hrb])
    refine bodyPost_ret (ret_ein rfl _ _ R U ⟨none,0,0,0⟩ zID _ rfl rfl rfl HB5.out HU5.out) rfl ?_
    exact ⟨⟨none,0,0,0⟩,zID,by rw [HE.out];rfl,by rw [HE.out];exact HR5.out,HF5.out,fun on h=>by rw [HE.out] at h;cases h⟩
   ·have i2:¬ (rs.length:Int) < (k:Int):=by omega
    obtain ⟨i,hi⟩:∃ i,i = rs.length - k:=⟨_,rfl⟩
    have hil:i < rs.length:=by omega
    have hil2:i < ahead.length:=by have:=HLE.out.2;omega
    have HE:=Lib.hid (show baseF s 1 ahead = (.ok ahead[i],s') by
     rw [HB2.out,if_neg (by rw [hrb];simp;omega),if_neg (by rw [← HLE.out.2];exact h2),← HLE.out.2,← hi,List.getD_eq_getElem?_getD,List.getElem?_eq_getElem hil2]
     rfl)
    have wi:wrap64 ((rs.length:Int) - (k:Int)) = (i:Int):=by rw [IntWalk.wrap64_in _ (by have:=HLE.out.1;have:=HKB.out;omega)];omega
    have j0:(i:Int) < (rs.length:Int):=by omega
    have hs3:Sl w3 A (codPe.row rs):=HS.out.fr ((HF1.out.any (M:=oneB p)).trans HF3.out (fun b hb e=>e)) HA.out
    obtain ⟨g,off,rfl,hg⟩:=Sl.addr hs3 (by omega)
    obtain ⟨c2,c3⟩:=cellPe hs3 i hil
    have hpe:=HX.out.at_ i hil hil2
    generalize rs[i] = r at c2 c3 hpe
    obtain ⟨rA,rn,rc,rh⟩:=r
    have HPE:=Lib.hid hpe
    simp only at c2 c3
    clear hs3 hg hpe hi hil h1 h2
    have hb3:=HB1.out.fr HF3.out (fun e=>by have e:R = p:=e;have:=HRU.out;have:=HP.out;omega)
    have hu3:=bxI_fr HU1.out HF3.out (fun e=>by have e:U = p:=e;have:=HRU.out;have:=HP.out;omega)
    have c0:w3.cell? ⟨R,0,none⟩ = some (.slice none 0 0):=hb3.cell 0
    have c1:w3.cell? ⟨R,1,none⟩ = some (.int .i64 0):=hb3.cell 1
    have z0:=hb3.frozen 0
    have z1:=hb3.frozen 1
    have hb4:=(hb3.set 0 (.slice rA rn rc)).set 1 (.int .i64 (rh:Int))
    have f4:Fr (oneB R) w3 ((w3.setCell ⟨R,0,none⟩ (.slice rA rn rc)).setCell ⟨R,1,none⟩ (.int .i64 (rh:Int))):=((Fr.refl (oneB R) w3).setCell (p:=⟨R,0,none⟩) (fun _=>rfl) _).setCell (p:=⟨R,1,none⟩) (fun _=>rfl) _
    have hu4:=bxI_fr hu3 f4 (fun e=>by have e:U = R:=e;have:=HRU.out;omega)
    obtain ⟨g1,g2,g3⟩:=putB_fr hu4 zID
    have HB5:=Lib.hid (hb4.fr g1 (fun e=>by have e:R = U:=e;have:=HRU.out;omega))
    have HU5:=Lib.hid g3
    have HR5:=Lib.hid ((HR3.out.fr f4 (fun e=>by have e:p = R:=e;have:=HRU.out;have:=HP.out;omega) (fun b hb e=>by have e:b = R:=e;have:=HQW.out b hb;have:=HRU.out;omega)).fr g1 (fun e=>by have e:p = U:=e;have:=HRU.out;have:=HP.out;omega) (fun b hb e=>by have e:b = U:=e;have:=HQW.out b hb;have:=HRU.out;omega))
    have HF5:=Lib.hid (((HF1.out.any (M:=oneB p)).trans HF3.out (fun b hb e=>e)).trans (M':=fun b=>b = R ∨ b = U) ((f4.mono (fun b h=>.inl h)).trans (g1.mono (fun b h=>(.inr h:b = R ∨ b = U))) (fun b hb h=>h)) (fun b hb e=>by have:=HRU.out;omega))
    clear hb3 hb4 f4 g1 g2 g3
    go_wp2_with (go_at_call 31;refine (good_any _ p s' Q HR3.out).mono ?_;rintro e w8 ⟨rfl,h8⟩;subst h8;rw [hrb])
    refine bodyPost_ret (ret_ein rfl _ _ R U ⟨rA,rn,rc,rh⟩ zID _ rfl rfl rfl HB5.out HU5.out) rfl ?_
    exact ⟨⟨rA,rn,rc,rh⟩,zID,by rw [HE.out];rfl,by rw [HE.out];exact HR5.out,HF5.out,fun on h=>by rw [HE.out] at h;injection h with h;subst h;exact HPE.out.frp H0.out HF5.out⟩
end Go.Proofs.Ytahllkifmmjbdaa
