/- Contract: pack.read (nobody outside). -/
import Derived.Test.YtahllkifmmjbdaaPkFKp
import Derived.Test.YtahllkifmmjbdaaDeltaKp
import Derived.Lib.ConvBytes
set_option linter.unusedVariables false
set_option linter.unusedSimpArgs false
namespace Go.Proofs.Ytahllkifmmjbdaa
open Go.RowKit Go.Maps Go.Sort
set_option maxRecDepth 100000
theorem conv_w (w:World) (l:List UInt8):∃ c W,(convert 9 25 (.string (str l))).run Try.prog w = .ok (.slice (some ⟨w.heap.size,0,none⟩) l.length c) W ∧ SlT W (some ⟨w.heap.size,0,none⟩) l ∧ Fr noB w W ∧ W.heap.size = w.heap.size + 1 ∧ l.length ≤ c:=by
 have h:=Lib.run_convert_string_bytes (P:=Try.prog) w 9 25 5 (str l) Try.underlying9 Try.underlying25 Try.underlying5
 rw [str_size] at h
 refine ⟨_,_,h,fun _=>⟨w.heap.size,0,_,_,rfl,Lib.bytesWorld_at_new ..,fun _=>⟨w.heap.size,0,rfl,by rw [Lib.bytesWorld_size];omega,fun j v hv=>?_⟩⟩,⟨rfl,rfl,rfl,by rw [Lib.bytesWorld_size];omega,fun k hk _=>Lib.bytesWorld_at_old w 5 (str l) k hk⟩,Lib.bytesWorld_size ..,grownCap_ge ..⟩
 have hj:j < l.length:=by have:=(List.getElem?_eq_some_iff.1 hv).1;rw [bv_length] at this;exact this
 rw [Nat.zero_add,Lib.bytesWorld_cell w 5 (str l) j (by rw [str_size];exact hj),← hv,bv_get l j hj]
 have:(str l).data.toList.getD j 0 = l[j]:=by
  have e0:(str l).data.toList = l:=by simp [str]
  rw [e0]
  simp [List.getD,hj]
 rw [this]
theorem applyz (w:World) (A D:Option Addr) (c cd:Nat) (base d:List UInt8) (n k:Nat) (hn:base.length = n) (hk:d.length = k) (hA:Sl w A (bv base)) (hD:Sl w D (bv d)) (hc:base.length ≤ c) (hcd:d.length ≤ cd)
  (hb:base.length ≤ 140737488351232) (hd:d.length ≤ 140737488351232) (r:Except Nat (List UInt8)) (hr:applyD base d = r) :
  Calls Try.prog 56 #[.slice A n c,.slice D k cd] w (ApplyTo w r):=by
 subst hn;subst hk;subst hr
 exact apply_any w A D c cd base d hA hD hc hcd hb hd
theorem EsIn.frp {w w':World} {p:Nat} {s:RS} {Q:Nat → Prop} {rs:List PeW} {xs:List PeP} (h:EsIn w rs xs) (hr:Rdr w p s Q) (f:Fr (oneB p) w w'):EsIn w' rs xs:=⟨h.len,fun i h1 h2=>(h.at_ i h1 h2).frp hr f⟩
def EntTo (w:World) (p:Nat) (r:Except Nat PeP × RS) (Q:Nat → Prop) (e:Ending) (w':World):Prop :=
 ∃ (x:PeW),e = .returned (.tuple #[.agg (codPe.cs x).toArray,.int .i64 (errPk r.1:Int)]) ∧ Rdr w' p r.2 Q ∧ Fr (oneB p) w w' ∧ ∀ on,r.1 = .ok on → PeIn w' x on
theorem results_cta {fn:Func} {p t:Tmp} {ty:TypeId} (h:fn.results = #[.cell p ty,.tmp t]) (tmps:Array Value) (P:Program) (w:World) :
  (results fn tmps).run P w = ((asAddr (tmps.getD p undef)).run P w).andThen fun a w₁=>((loadVar ty a).run P w₁).andThen fun v w₂=>.ok (.tuple #[v,tmps.getD t undef]) w₂:=by
 simp only [results,h]
 simp [Sem.run_bind,Result.andThen]
theorem ret_en {fn:Func} {p t:Tmp} (h:fn.results = #[.cell p 53,.tmp t]) (tmps:Array Value) (w:World) (R:Nat) (x:PeW) (v:Value)
  (hp:tmps.getD p undef = .pointer (some ⟨R,0,none⟩)) (hv:tmps.getD t undef = v) (hb:Blk w R 53 (codPe.cs x)):(results fn tmps).run Try.prog w = .ok (.tuple #[.agg (codPe.cs x).toArray,v]) w:=by
 rw [results_cta h,hp,hv]
 simp only [asAddr,Sem.run_pure,Result.andThen_ok,lvPe hb]
theorem SlT.setE {w w':World} {g:Nat} {x:PeW} {A:Option Addr} {l:List UInt8} (hs:SlT w A l) (hb:Blk w g 53 (codPe.cs x)) (f:Fr (oneB g) w w'):SlT w' A l:=hs.frT f (no8 hb (by decide))
theorem setPe {w:World} {R:Nat} {y:PeW} (hb:Blk w R 53 (codPe.cs y)) (x:PeW) :
  Blk ((w.setCell ⟨R,0,none⟩ (.slice x.A x.n x.c)).setCell ⟨R,1,none⟩ (.int .i64 (x.ch:Int))) R 53 (codPe.cs x) ∧ Fr (oneB R) w ((w.setCell ⟨R,0,none⟩ (.slice x.A x.n x.c)).setCell ⟨R,1,none⟩ (.int .i64 (x.ch:Int))) :=
 ⟨(hb.set 0 _).set 1 _,((Fr.refl (oneB R) w).setCell (p:=⟨R,0,none⟩) (fun _=>rfl) _).setCell (p:=⟨R,1,none⟩) (fun _=>rfl) _⟩
theorem PeIn.setE {w w':World} {g:Nat} {y x:PeW} {o:PeP} (h:PeIn w x o) (hb:Blk w g 53 (codPe.cs y)) (f:Fr (oneB g) w w'):PeIn w' x o:=⟨h.len,h.cap,h.sl.setE hb f,h.bd,h.ch,h.lo,h.nil⟩
theorem ent_fin {w w8:World} {p R:Nat} {r:Except Nat PeP × RS} {Q:Nat → Prop} {y:PeW} (hR:R = w.heap.size) (hp:p < w.heap.size) (hQw:∀ b,Q b → b < w.heap.size) (hrd:Rdr w8 p r.2 Q) (hf:Fr (oneB p) w w8) (hb:Blk w8 R 53 (codPe.cs y)) (x:PeW) (hx:∀ on,r.1 = .ok on → PeIn w8 x on) :
  EntTo w p r Q (.returned (.tuple #[.agg (codPe.cs x).toArray,.int .i64 (errPk r.1:Int)])) ((w8.setCell ⟨R,0,none⟩ (.slice x.A x.n x.c)).setCell ⟨R,1,none⟩ (.int .i64 (x.ch:Int))):=by
 obtain ⟨h1,h2⟩:=setPe hb x
 exact ⟨x,rfl,hrd.fr h2 (fun e=>by have e:p = R:=e;omega) (fun b hq e=>by have e:b = R:=e;have:=hQw b hq;omega),hf.trans h2 (fun b hb e=>by have e:b = R:=e;omega),fun on ho=>(hx on ho).setE hb h2⟩
theorem applyD_most (base d:List UInt8):(resB (applyD base d)).length ≤ 1048576:=by
 unfold applyD
 split
 ·simp [resB]
 ·split
  ·simp [resB]
  ·rename_i h
   split
   ·exact applyL_out base _ _ _ _ h (by simp)
   ·simp [resB]
theorem own_nilc {w0 w:World} {A:Option Addr} {n c:Nat} {l:List UInt8} (h:w.ownsRow w0.heap.size 5 1 (.slice A n c) n (bv l)):A = none → c = 0:=by
 rintro rfl
 rcases h.2 with ⟨e,_⟩ | ⟨g,cap,cur,e,_⟩
 ·injection e
 ·cases e
theorem baseF_err {s s2:RS} {k:Nat} {ahead:List PeP} {e:Nat} (h:baseF s k ahead = (.error e,s2)):e = 20 ∨ e = 70:=by
 unfold baseF at h
 simp only at h
 split at h <;> split at h
 ·cases h;exact .inl rfl
 ·split at h
  ·cases h;exact .inr rfl
  ·cases h
 ·cases h;exact .inl rfl
 ·cases h;exact .inr rfl
theorem baseF_ok {s s2:RS} {k:Nat} {ahead:List PeP} {x:PeP} (h:baseF s k ahead = (.ok x,s2)):k = 1:=by
 unfold baseF at h
 simp only at h
 split at h
 ·assumption
 ·split at h <;> cases h
theorem baseF_len (s:RS) (k:Nat) (ahead:List PeP):(baseF s k ahead).2.1.length ≤ s.1.length:=by
 unfold baseF
 simp only
 split <;> split
 ·exact (rdNum_bd _ _).2
 ·split
  ·exact (rdNum_bd _ _).2
  ·exact (rdNum_bd _ _).2
 ·exact rdId_len _
 ·exact rdId_len _
theorem baseK_any (w:World) (p:Nat) (s:RS) (Q:Nat → Prop) (h:Rdr w p s Q) (hQp:¬ Q p) (hQw:∀ b,Q b → b < w.heap.size) (hlen:s.1.length ≤ 100000000000) (A:Option Addr) (n c:Nat) (rs:List PeW) (ahead:List PeP) (hn:rs.length = n) (hs:Sl w A (codPe.row rs)) (hX:EsIn w rs ahead) (hA:Off A (fun b=>¬ oneB p b)) (hb:rs.length ≤ 65535) (k:Nat) (hk:k = 1 ∨ k = 2) :
  Calls Try.prog 55 #[.pointer (some ⟨p,0,none⟩),.int .i64 (k:Int),.slice A n c,.nilFunc] w (BaseTo w p (baseF s k ahead) Q):=by
 rcases hk with rfl | rfl
 ·exact base1_any w p s Q h hQp hQw hlen A n c rs ahead hn hs hX hA hb
 ·exact base2_any w p s Q h hQp hQw hlen _ ahead
theorem rdText_most (most:Nat) (s:RS):(rdText most s).1.length ≤ most:=by
 have h:=(rdNum_bd most s).1
 unfold rdText rdTake
 split
 ·exact Nat.zero_le _
 ·simp only [List.length_take];omega
set_option maxHeartbeats 8000000 in
theorem pkread_any (w:World) (p:Nat) (s:RS) (Q:Nat → Prop) (h:Rdr w p s Q) (hQp:¬ Q p) (hQw:∀ b,Q b → b < w.heap.size) (hlen:s.1.length ≤ 100000000000) (V:Value) (A:Option Addr) (n c:Nat) (rs:List PeW) (ahead:List PeP) (hn:rs.length = n) (hs:Sl w A (codPe.row rs)) (hX:EsIn w rs ahead) (hA:Off A (fun b=>¬ oneB p b)) (hb:rs.length ≤ 65535) :
  Calls Try.prog 32 #[V,.pointer (some ⟨p,0,none⟩),.slice A n c,.nilFunc] w (EntTo w p (entF s ahead) Q):=by
 subst hn
 have HS:=Lib.hid hs
 have HX:=Lib.hid hX
 have HR0:=Lib.hid h
 have HA:=Lib.hid hA
 have HN:=Lib.hid hb
 clear hs hX hA hb
 obtain ⟨R,hR⟩:∃ R,R = w.heap.size:=⟨_,rfl⟩
 have f1:Fr noB w (w.alloc (.cells #[.slice none 0 0,.int .i64 0] 53)):=(Fr.refl noB w).alloc _
 have b1:Blk (w.alloc (.cells #[.slice none 0 0,.int .i64 0] 53)) R 53 (codPe.cs ⟨none,0,0,0⟩):=by rw [hR];exact Blk.new w 53 (codPe.cs ⟨none,0,0,0⟩)
 have HR:=Lib.hid hR
 have HF1:=Lib.hid f1
 have HB1:=Lib.hid b1
 have HR1:=Lib.hid (h.fr f1 (by simp [noB]) (fun _ _=>by simp [noB]))
 have HP:=Lib.hid h.lt
 have HQW:=Lib.hid hQw
 have HL:=Lib.hid hlen
 clear f1 b1 h hQw hlen
 go_enter Try.func32,Try.ntmps32
 go_upto_region 1 with fail
 rw [← hR]
 clear hR
 generalize w.alloc (.cells #[.slice none 0 0,.int .i64 0] 53) = w1 at HF1 HB1 HR1 ⊢
 obtain ⟨k,s1,hk⟩:∃ k s',rdNum 2 s = (k,s'):=⟨_,_,rfl⟩
 have HK:=Lib.hid hk
 have HKB:=Lib.hid (show k ≤ 2 ∧ s1.1.length ≤ s.1.length by have:=rdNum_bd 2 s;rw [hk] at this;exact this)
 have hr2:entF s ahead = if s1.2 = true then (.error 20,s1) else if k = 0 then (if (rdText 1048576 s1).2.2 = true then (.error 20,(rdText 1048576 s1).2) else (.ok ⟨(rdText 1048576 s1).1,0⟩,(rdText 1048576 s1).2)) else match baseF s1 k ahead with
  | (.error e,s2)=>(.error e,s2)
  | (.ok on,s2)=>if (rdText 1048576 s2).2.2 = true then (.error 20,(rdText 1048576 s2).2) else if 8 ≤ on.ch then (.error 80,(rdText 1048576 s2).2) else match applyD on.b (rdText 1048576 s2).1 with
      | .error e=>(.error e,(rdText 1048576 s2).2)
      | .ok r=>(.ok ⟨r,on.ch + 1⟩,(rdText 1048576 s2).2):=by unfold entF;rw [hk];rfl
 have HE:=Lib.hid hr2
 clear hk hr2
 go_upto_region 2 with (go_at_call 30;refine (num_eq w1 p s Q 2 (by decide) HR1.out (by have:=HL.out;omega) k s1 HK.out).mono ?_;rintro e w3 ⟨rfl,hr2,hf2⟩;have HR3:=Lib.hid hr2;have HF3:=Lib.hid hf2;clear hr2 hf2)
 have HF3':=Lib.hid ((HF1.out.any (M:=oneB p)).trans HF3.out (fun b hb e=>e))
 have HB3:=Lib.hid (HB1.out.fr HF3.out (fun e=>by have e:R = p:=e;have:=HR.out;have:=HP.out;omega))
 clear HF1 HB1 HR1 HF3
 cases hrb:s1.2 with
 | true =>
  have HE2:=Lib.hid (show entF s ahead = (.error 20,s1) by rw [HE.out,if_pos hrb])
  have c0:w3.cell? ⟨R,0,none⟩ = some (.slice none 0 0):=HB3.out.cell 0
  have c1:w3.cell? ⟨R,1,none⟩ = some (.int .i64 0):=HB3.out.cell 1
  have z0:=HB3.out.frozen 0
  have z1:=HB3.out.frozen 1
  go_wp2_with (go_at_call 31;refine (good_any _ p s1 Q HR3.out).mono ?_;rintro e w8 ⟨rfl,h8⟩;subst h8;rw [hrb])
  refine bodyPost_ret (ret_en rfl _ _ R ⟨none,0,0,0⟩ _ rfl rfl (setPe HB3.out ⟨none,0,0,0⟩).1) rfl ?_
  rw [HE2.out]
  exact ent_fin HR.out HP.out HQW.out HR3.out HF3'.out HB3.out ⟨none,0,0,0⟩ (fun on h=>by cases h)
 | false =>
  by_cases hk0:k = 0
  ·subst hk0
   obtain ⟨t,s2,ht⟩:∃ t s',rdText 1048576 s1 = (t,s'):=⟨_,_,rfl⟩
   have HT:=Lib.hid ht
   have HE2:=Lib.hid (show entF s ahead = if s2.2 = true then (.error 20,s2) else (.ok ⟨t,0⟩,s2) by rw [HE.out,if_neg (by rw [hrb];exact Bool.false_ne_true),if_pos rfl,ht])
   have HTL:=Lib.hid (show t.length ≤ 1048576 by have:=rdText_most 1048576 s1;rw [ht] at this;exact this)
   clear ht
   go_upto_region 6 with (first
    | (go_at_call 31;refine (good_any _ p s1 Q HR3.out).mono ?_;rintro e w8 ⟨rfl,h8⟩;subst h8;rw [hrb])
    | (go_at_call 54;refine (rtext_any _ p s1 Q HR3.out hQp (by have:=HL.out;have:=HKB.out;omega) 1048576 (by decide)).mono ?_;rw [HT.out];rintro e w4 ⟨rfl,hr4,hf4⟩;obtain ⟨c5,W5,hcv,hs5,hf5,hz5,hc5⟩:=conv_w w4 t;have HR5:=Lib.hid (hr4.fr hf5 (by simp [noB]) (fun _ _=>by simp [noB]));have HF5:=Lib.hid ((HF3'.out.trans hf4 (fun b hb e=>e)).step0 hf5);have HS5:=Lib.hid hs5;have HC5:=Lib.hid hc5;have HZ5:=Lib.hid hz5;have HG4:=Lib.hid (show w.heap.size ≤ w4.heap.size from (HF3'.out.trans hf4 (fun b hb e=>e)).size);have HB5:=Lib.hid (((HB3.out.fr hf4 (fun e=>by have e:R = p:=e;have:=HR.out;have:=HP.out;omega)).fr hf5 (by simp [noB])));clear hs5 hc5 hr4 hf4 hf5 hz5))
   have fE:Fr noB W5 (W5.alloc (.cells #[.slice (some ⟨w4.heap.size,0,none⟩) t.length c5,.int .i64 0] 53)):=(Fr.refl noB W5).alloc _
   obtain ⟨E,hE⟩:∃ E,E = W5.heap.size:=⟨_,rfl⟩
   obtain ⟨G,hG⟩:∃ G,G = w4.heap.size:=⟨_,rfl⟩
   have bE:Blk (W5.alloc (.cells #[.slice (some ⟨w4.heap.size,0,none⟩) t.length c5,.int .i64 0] 53)) E 53 (codPe.cs ⟨some ⟨w4.heap.size,0,none⟩,t.length,c5,0⟩):=by rw [hE];exact Blk.new W5 53 (codPe.cs ⟨some ⟨w4.heap.size,0,none⟩,t.length,c5,0⟩)
   have HE6:=Lib.hid bE
   have HS6:=Lib.hid (HS5.out.fr0 fE)
   have HR6:=Lib.hid (HR5.out.fr fE (by simp [noB]) (fun _ _=>by simp [noB]))
   have HF6:=Lib.hid (HF5.out.step0 fE)
   have HB6:=Lib.hid (HB5.out.fr fE (by simp [noB]))
   have HEE:=Lib.hid (show E ≠ R ∧ E ≠ p from by have:=HR.out;have:=HP.out;have:=HG4.out;have:=HZ5.out;omega)
   have HGW:=Lib.hid (show w.heap.size ≤ G from by have:=HG4.out;omega)
   rw [← hE,← hG]
   rw [← hG] at HE6 HS6 HR6 HF6 HB6
   clear fE bE hcv HS5 HR5 HF5 HB5 HZ5 hE hG HG4
   generalize W5.alloc (.cells #[.slice (some ⟨G,0,none⟩) t.length c5,.int .i64 0] 53) = W6 at HE6 HS6 HR6 HF6 HB6 ⊢
   have c0:W6.cell? ⟨R,0,none⟩ = some (.slice none 0 0):=HB6.out.cell 0
   have c1:W6.cell? ⟨R,1,none⟩ = some (.int .i64 0):=HB6.out.cell 1
   have z0:=HB6.out.frozen 0
   have z1:=HB6.out.frozen 1
   have e0:W6.cell? ⟨E,0,none⟩ = some (.slice (some ⟨G,0,none⟩) t.length c5):=HE6.out.cell 0
   have e1:W6.cell? ⟨E,1,none⟩ = some (.int .i64 0):=HE6.out.cell 1
   cases hrc:s2.2 with
   | true =>
    have HE3:=Lib.hid (show entF s ahead = (.error 20,s2) by rw [HE2.out,if_pos hrc])
    go_wp2_with (go_at_call 31;refine (good_any _ p s2 Q HR6.out).mono ?_;rintro e w8 ⟨rfl,h8⟩;subst h8;rw [hrc])
    refine bodyPost_ret (ret_en rfl _ _ R ⟨none,0,0,0⟩ _ rfl rfl (setPe HB6.out ⟨none,0,0,0⟩).1) rfl ?_
    rw [HE3.out]
    exact ent_fin HR.out HP.out HQW.out HR6.out HF6.out HB6.out ⟨none,0,0,0⟩ (fun on h=>by cases h)
   | false =>
    have HE3:=Lib.hid (show entF s ahead = (.ok ⟨t,0⟩,s2) by rw [HE2.out,if_neg (by rw [hrc];exact Bool.false_ne_true)])
    go_wp2_with (go_at_call 31;refine (good_any _ p s2 Q HR6.out).mono ?_;rintro e w8 ⟨rfl,h8⟩;subst h8;rw [hrc])
    refine bodyPost_ret (ret_en rfl _ _ R ⟨some ⟨G,0,none⟩,t.length,c5,0⟩ _ rfl rfl (setPe HB6.out ⟨some ⟨G,0,none⟩,t.length,c5,0⟩).1) rfl ?_
    rw [HE3.out]
    exact ent_fin HR.out HP.out HQW.out HR6.out HF6.out HB6.out ⟨some ⟨G,0,none⟩,t.length,c5,0⟩ (fun on h=>by have h:=Except.ok.inj h;subst h;exact ⟨rfl,HC5.out,HS6.out,HTL.out,rfl,Nat.zero_le _,fun h=>by cases h⟩)
  ·obtain ⟨bx,s2,hbx⟩:∃ bx s',baseF s1 k ahead = (bx,s'):=⟨_,_,rfl⟩
   have HBX:=Lib.hid hbx
   have hlb:=baseF_len s1 k ahead
   rw [hbx] at hlb
   have HLB:=Lib.hid hlb
   have HE2:=Lib.hid (show entF s ahead = (match (bx,s2) with
  | (.error e,s2)=>(.error e,s2)
  | (.ok on,s2)=>if (rdText 1048576 s2).2.2 = true then (.error 20,(rdText 1048576 s2).2) else if 8 ≤ on.ch then (.error 80,(rdText 1048576 s2).2) else match applyD on.b (rdText 1048576 s2).1 with
      | .error e=>(.error e,(rdText 1048576 s2).2)
      | .ok r=>(.ok ⟨r,on.ch + 1⟩,(rdText 1048576 s2).2):Except Nat PeP × RS) by rw [HE.out,if_neg (by rw [hrb];exact Bool.false_ne_true),if_neg hk0,hbx])
   have HKK:=Lib.hid (show k = 1 ∨ k = 2 by have:=HKB.out;omega)
   have k0:((k:Int) == 0) = false:=by rw [beq_eq_false_iff_ne];omega
   clear hbx hlb hk0
   go_upto_region 10 with (first
    | (go_at_call 31;refine (good_any _ p s1 Q HR3.out).mono ?_;rintro e w8 ⟨rfl,h8⟩;subst h8;rw [hrb])
    | (go_at_call 55;refine (baseK_any _ p s1 Q HR3.out hQp (fun b hb=>by have:=HQW.out b hb;have:=HF3'.out.size;omega) (by have:=HL.out;have:=HKB.out;omega) A _ c rs ahead rfl (HS.out.fr HF3'.out HA.out) (HX.out.frp HR0.out HF3'.out) HA.out HN.out k HKK.out).mono ?_;rw [HBX.out];rintro e w4 ⟨x,y,rfl,hr4,hf4,hx4⟩;obtain ⟨xA,xn,xc,xh⟩:=x;rw [show (codPe.cs ⟨xA,xn,xc,xh⟩).toArray = #[.slice xA xn xc,.int .i64 (xh:Int)] from rfl];have HR4:=Lib.hid hr4;have HF4:=Lib.hid (HF3'.out.trans hf4 (fun b hb e=>e));have HX4:=Lib.hid hx4;have HB4:=Lib.hid (HB3.out.fr hf4 (fun e=>by have e:R = p:=e;have:=HR.out;have:=HP.out;omega));have d5:bxI ((w4.alloc (.cells #[.slice xA xn xc,.int .i64 (xh:Int)] 53)).alloc (ido zID)) (w4.heap.size + 1) = some zID:=bxI_new' _ _ _ (by simp);clear hr4 hf4 hx4))
   have b5:Blk ((w4.alloc (.cells #[.slice xA xn xc,.int .i64 (xh:Int)] 53)).alloc (ido zID)) w4.heap.size 53 (codPe.cs ⟨xA,xn,xc,xh⟩):=(Blk.new w4 53 (codPe.cs ⟨xA,xn,xc,xh⟩)).alloc _
   have f5:Fr noB w4 (putB ((w4.alloc (.cells #[.slice xA xn xc,.int .i64 (xh:Int)] 53)).alloc (ido zID)) (w4.heap.size + 1) y):=(((Fr.refl noB w4).alloc _).alloc _).trans (putB_fr d5 y).1 (fun b hb e=>by have e:b = w4.heap.size + 1:=e;omega)
   have HE5:=Lib.hid (b5.fr (putB_fr d5 y).1 (fun e=>by have e:w4.heap.size = w4.heap.size + 1:=e;omega))
   have HR5:=Lib.hid (HR4.out.fr f5 (by simp [noB]) (fun _ _=>by simp [noB]))
   have HF5:=Lib.hid (HF4.out.step0 f5)
   have HB5:=Lib.hid (HB4.out.fr f5 (by simp [noB]))
   have HX5:=Lib.hid (show ∀ on,bx = .ok on → PeIn _ ⟨xA,xn,xc,xh⟩ on from fun on h=>(HX4.out on h).fr0 f5)
   obtain ⟨E,hE⟩:∃ E,E = w4.heap.size:=⟨_,rfl⟩
   have HEE:=Lib.hid (show E ≠ R ∧ E ≠ p ∧ w.heap.size ≤ E from by have:=HR.out;have:=HP.out;have:=HF4.out.size;have:=Blk.lt HB4.out;omega)
   rw [← hE] at HE5
   simp only [← hE]
   simp only [← hE] at HR5 HF5 HB5 HX5 HE5
   clear d5 b5 f5 hE HR4 HF4 HB4 HX4 HR3 HF3' HB3
   generalize putB ((w4.alloc (.cells #[.slice xA xn xc,.int .i64 (xh:Int)] 53)).alloc (ido zID)) (E + 1) y = W5 at HE5 HR5 HF5 HB5 HX5 ⊢
   obtain ⟨q,hq⟩:∃ q,q = errPk bx:=⟨_,rfl⟩
   rw [← hq]
   have c0:W5.cell? ⟨R,0,none⟩ = some (.slice none 0 0):=HB5.out.cell 0
   have c1:W5.cell? ⟨R,1,none⟩ = some (.int .i64 0):=HB5.out.cell 1
   have z0:=HB5.out.frozen 0
   have z1:=HB5.out.frozen 1
   cases bx with
   | error er =>
    have hqe:q = er:=hq
    subst hqe
    have her:=baseF_err HBX.out
    have HE3:=Lib.hid (show entF s ahead = (.error q,s2) from HE2.out)
    have n0:((q:Int) == 0) = false:=by rw [beq_eq_false_iff_ne];omega
    clear her hq
    go_wp2_with fail
    refine bodyPost_ret (ret_en rfl _ _ R ⟨none,0,0,0⟩ _ rfl rfl (setPe HB5.out ⟨none,0,0,0⟩).1) rfl ?_
    rw [HE3.out]
    exact ent_fin HR.out HP.out HQW.out HR5.out HF5.out HB5.out ⟨none,0,0,0⟩ (fun on h=>by cases h)
   | ok on =>
    have hqe:q = 0:=hq
    subst hqe
    have HX6:=Lib.hid (HX5.out on rfl)
    have HK1:=Lib.hid (baseF_ok HBX.out)
    obtain ⟨t,s3,ht⟩:∃ t s',rdText 1048576 s2 = (t,s'):=⟨_,_,rfl⟩
    have HT:=Lib.hid ht
    have HTL:=Lib.hid (show t.length ≤ 1048576 by have:=rdText_most 1048576 s2;rw [ht] at this;exact this)
    have HE3:=Lib.hid (show entF s ahead = if s3.2 = true then (.error 20,s3) else if 8 ≤ on.ch then (.error 80,s3) else match applyD on.b t with
     | .error e=>(.error e,s3)
     | .ok r=>(.ok ⟨r,on.ch + 1⟩,s3) by rw [HE2.out];simp only [ht])
    clear ht hq HE2 HE HX5
    have e0:W5.cell? ⟨E,0,none⟩ = some (.slice xA xn xc):=HE5.out.cell 0
    have e1:W5.cell? ⟨E,1,none⟩ = some (.int .i64 (xh:Int)):=HE5.out.cell 1
    go_upto_region 13 with (go_at_call 54;refine (rtext_any _ p s2 Q HR5.out hQp (by have:=HL.out;have:=HKB.out;have:=HLB.out;omega) 1048576 (by decide)).mono ?_;rw [HT.out];rintro e w6 ⟨rfl,hr6,hf6⟩;have HR6:=Lib.hid hr6;have HF6:=Lib.hid (HF5.out.trans hf6 (fun b hb e=>e));have HB6:=Lib.hid (HB5.out.fr hf6 (fun e=>by have e:R = p:=e;have:=HR.out;have:=HP.out;omega));have HX6':=Lib.hid (HX6.out.frp HR5.out hf6);have HE6:=Lib.hid (HE5.out.fr hf6 (fun e=>by have e:E = p:=e;have:=HEE.out;omega));clear hr6 hf6)
    clear c0 c1 z0 z1 e0 e1 HX6 HB5 HE5 HR5 HF5
    have c0:w6.cell? ⟨R,0,none⟩ = some (.slice none 0 0):=HB6.out.cell 0
    have c1:w6.cell? ⟨R,1,none⟩ = some (.int .i64 0):=HB6.out.cell 1
    have z0:=HB6.out.frozen 0
    have z1:=HB6.out.frozen 1
    have e0:w6.cell? ⟨E,0,none⟩ = some (.slice xA xn xc):=HE6.out.cell 0
    have e1:w6.cell? ⟨E,1,none⟩ = some (.int .i64 (xh:Int)):=HE6.out.cell 1
    cases hrc:s3.2 with
    | true =>
     have HE4:=Lib.hid (show entF s ahead = (.error 20,s3) by rw [HE3.out,if_pos hrc])
     go_wp2_with (go_at_call 31;refine (good_any _ p s3 Q HR6.out).mono ?_;rintro e w8 ⟨rfl,h8⟩;subst h8;rw [hrc])
     refine bodyPost_ret (ret_en rfl _ _ R ⟨none,0,0,0⟩ _ rfl rfl (setPe HB6.out ⟨none,0,0,0⟩).1) rfl ?_
     rw [HE4.out]
     exact ent_fin HR.out HP.out HQW.out HR6.out HF6.out HB6.out ⟨none,0,0,0⟩ (fun on h=>by cases h)
    | false =>
     have hch:=HX6'.out.ch
     simp only at hch
     by_cases h8:8 ≤ on.ch
     ·have HE4:=Lib.hid (show entF s ahead = (.error 80,s3) by rw [HE3.out,if_neg (by rw [hrc];exact Bool.false_ne_true),if_pos h8])
      have i8:(8:Int) ≤ (xh:Int):=by omega
      clear hch h8
      go_wp2_with (go_at_call 31;refine (good_any _ p s3 Q HR6.out).mono ?_;rintro e w8 ⟨rfl,h8⟩;subst h8;rw [hrc])
      refine bodyPost_ret (ret_en rfl _ _ R ⟨none,0,0,0⟩ _ rfl rfl (setPe HB6.out ⟨none,0,0,0⟩).1) rfl ?_
      rw [HE4.out]
      exact ent_fin HR.out HP.out HQW.out HR6.out HF6.out HB6.out ⟨none,0,0,0⟩ (fun on h=>by cases h)
     ·have HE4:=Lib.hid (show entF s ahead = match applyD on.b t with
       | .error e=>(.error e,s3)
       | .ok r=>(.ok ⟨r,on.ch + 1⟩,s3) by rw [HE3.out,if_neg (by rw [hrc];exact Bool.false_ne_true),if_neg h8])
      have i8:¬ (8:Int) ≤ (xh:Int):=by omega
      have HX8:=Lib.hid (show xh < 8 by omega)
      have HXC:=Lib.hid hch
      obtain ⟨c7,W7,hcv,hs7,hf7,hz7,hc7⟩:=conv_w w6 t
      have HS7:=Lib.hid hs7
      have HC7:=Lib.hid hc7
      have HR7:=Lib.hid (HR6.out.fr hf7 (by simp [noB]) (fun _ _=>by simp [noB]))
      have HF7:=Lib.hid (HF6.out.step0 hf7)
      have HB7:=Lib.hid (HB6.out.fr hf7 (by simp [noB]))
      have HE7:=Lib.hid (HE6.out.fr hf7 (by simp [noB]))
      have HX7:=Lib.hid (HX6'.out.fr0 hf7)
      clear hch h8 hs7 hc7 hf7 hz7
      obtain ⟨ap,hap⟩:∃ ap,applyD on.b t = ap:=⟨_,rfl⟩
      have HAP:=Lib.hid hap
      have k1:k = 1:=HK1.out
      subst k1
      clear hap
      go_upto_region 18 with first
       | (go_at_call 31;refine (good_any _ p s3 Q HR6.out).mono ?_;rintro e w8 ⟨rfl,h8⟩;subst h8;rw [hrc])
       | (go_at_call 56;refine (applyz _ xA _ xc c7 on.b t xn _ HX7.out.len rfl HX7.out.sl.sl HS7.out.sl (by have:=HX7.out.len;have:=HX7.out.cap;simp only at *;omega) HC7.out (by have:=HX7.out.bd;omega) (by have:=HTL.out;omega) ap HAP.out).mono ?_;rintro e w9 ⟨A9,c9,rfl,ho9,hf9⟩;have HO9:=Lib.hid ho9;have HR9:=Lib.hid (HR7.out.fr hf9 (by simp [noB]) (fun _ _=>by simp [noB]));have HF9:=Lib.hid (HF7.out.step0 hf9);have HB9:=Lib.hid (HB7.out.fr hf9 (by simp [noB]));have HE9:=Lib.hid (HE7.out.fr hf9 (by simp [noB]));clear ho9 hf9)
      clear c0 c1 z0 z1 e0 e1 hcv HR6 HF6 HB6 HE6 HX6' HR7 HF7 HB7 HE7 HX7
      have c0:w9.cell? ⟨R,0,none⟩ = some (.slice none 0 0):=HB9.out.cell 0
      have c1:w9.cell? ⟨R,1,none⟩ = some (.int .i64 0):=HB9.out.cell 1
      have z0:=HB9.out.frozen 0
      have z1:=HB9.out.frozen 1
      have e1:w9.cell? ⟨E,1,none⟩ = some (.int .i64 (xh:Int)):=HE9.out.cell 1
      obtain ⟨m,hm⟩:∃ m,m = (resB ap).length:=⟨_,rfl⟩
      obtain ⟨q9,hq9⟩:∃ q,q = resE ap:=⟨_,rfl⟩
      have HMQ:=Lib.hid (And.intro hm hq9)
      rw [← hm,← hq9]
      clear hm hq9
      go_wp2_with fail
      refine bodyPost_ret (ret_en rfl _ _ R ⟨A9,m,c9,xh + 1⟩ _ rfl rfl (setPe HB9.out ⟨A9,m,c9,xh + 1⟩).1) rfl ?_
      have hend:∀ r:Except Nat PeP × RS,r.2 = s3 → ((errPk r.1:Nat):Int) = q9 → (∀ on,r.1 = .ok on → PeIn w9 ⟨A9,m,c9,xh + 1⟩ on) → EntTo w p r Q (.returned (.tuple #[.agg (codPe.cs ⟨A9,m,c9,xh + 1⟩).toArray,.int .i64 q9])) ((w9.setCell ⟨R,0,none⟩ (.slice A9 m c9)).setCell ⟨R,1,none⟩ (.int .i64 ((xh:Int) + 1))):=by
       rintro ⟨r1,r2⟩ rfl h2 h3
       rw [← h2]
       exact ent_fin HR.out HP.out HQW.out HR9.out HF9.out HB9.out ⟨A9,m,c9,xh + 1⟩ h3
      rw [HE4.out]
      obtain ⟨hm,hq9⟩:=HMQ.out
      rw [HAP.out]
      cases ap with
      | error er=>exact hend (.error er,s3) rfl (by rw [hq9];rfl) (fun on h=>by cases h)
      | ok rb =>
       refine hend (.ok ⟨rb,on.ch + 1⟩,s3) rfl (by rw [hq9];rfl) (fun on h=>?_)
       have h:=Except.ok.inj h
       subst h
       have hl:rb.length = m:=hm.symm
       have ho:=HO9.out
       rw [hm] 
       refine ⟨rfl,own_cap ho,SlT.own ho,?_,?_,?_,?_⟩
       ·have:=applyD_most on.b t
        rw [HAP.out] at this
        exact this
       ·show on.ch + 1 = xh + 1
        rw [HXC.out]
       ·show on.ch + 1 ≤ 8
        have:=HX8.out;have:=HXC.out;omega
       ·intro hn
        exact own_nilc ho hn
end Go.Proofs.Ytahllkifmmjbdaa
