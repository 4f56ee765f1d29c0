/-
  Part of the proof of a statement: the means.
-/
import Derived.Test.YtpnebmmjpapopaaGreatDoorX1
import Derived.Laws.Append
import Derived.RangeFuncRecord
import Derived.Lib.AppendZeros
import Derived.Orders
import Derived.Laws.AppendOwn
set_option linter.unusedSectionVars false
set_option linter.unusedVariables false
set_option linter.unusedSimpArgs false
set_option linter.deprecated false
section
namespace Go.Sx
section
variable {P:Program} {E:Env} (hE:EnvOk P E) {ρ:Rho} {H:Snap} {ts:List SVal} {h:Heap} {top:Top} {a:Act} {w:World} {o:Oper}
theorem qg3 (hΩ:E.Ω=Om.real) {s:SVal} {n:SN} {v:Value} (hn:qde E s=some n) (hd:Den ρ H s v) (hp:qjb s) : ∃ k z,v = .int k z/\0<=z/\n.v=z.toNat:=by
 cases s<;>simp only[qde]at hn<;>try (cases hn;done)
 ·rename_i k z
  split at hn<;>try (cases hn;done)
  rename_i h1
  cases hn
  simp only[Den,Rep,List.cons.injEq,and_true]at hd
  exact⟨k,z,hd,by simpa using h1,rfl⟩
 ·rename_i k z
  cases hn
  simp only[Den,Rep,List.cons.injEq,and_true]at hd
  exact⟨k,z,hd,hp,by rw[hΩ];rfl⟩
theorem qoi {k:IntKind} {z:Int} {y:Nat} {c:BoundsCode} (h0:0<=z) (h1:z.toNat<=y) (w:World):(Instr.sliceBound (.int k z) y c).run P w = .ok z.toNat w:=by
 have:z<=(y:Int):=by omega
 simp[Instr.sliceBound,asIntOf,h0,this]
theorem qdq (hΩ:E.Ω=Om.real) {len cap l h' m:SN} {lo hi mx:Option SVal} {vlo vhi vmx:Option Value} {p:Unit->Prop} (hb:qax E len cap lo hi mx=some (p,l,h',m)) (hp:p ())
  (hlo : ∀ s,lo=some s -> ∃ v,vlo=some v/\Den ρ H s v) (hlo':lo=none->vlo=none) (hhi : ∀ s,hi=some s -> ∃ v,vhi=some v/\Den ρ H s v) (hhi':hi=none->vhi=none)
  (hmx : ∀ s,mx=some s -> ∃ v,vmx=some v/\Den ρ H s v) (hmx':mx=none->vmx=none) (hmh:mx ≠ none->hi ≠ none) (b:Bool) (w:World) :
  (Instr.sliceBounds b len.v cap.v vlo vhi vmx).run P w = .ok (l.v,h'.v,m.v) w/\l.v<=h'.v/\h'.v<=m.v/\m.v<=cap.v:=by
 unfold qax at hb
 simp only at hb
 split at hb<;>try (cases hb;done)
 rename_i l1 h1 m1 e1 e2 e3
 simp only[Option.some.injEq,Prod.mk.injEq]at hb
 obtain⟨rfl,rfl,rfl,rfl⟩:=hb
 obtain⟨p1,p2,p3,p4,p5,p6⟩:=hp
 refine⟨?_,p4,p5,p6⟩
 have fM:(vmx=none/\m1.v=cap.v) \/ ∃ k z,vmx=some (.int k z)/\0<=z/\m1.v=z.toNat:=by
  cases mx with
  | none=>simp only at e3;cases e3;exact .inl ⟨hmx' rfl,rfl⟩
  | some s =>
    obtain⟨v,rfl,hd⟩:=hmx s rfl
    obtain⟨k,z,rfl,h0,hz⟩:=qg3 hΩ e3 hd p3
    exact .inr ⟨k,z,rfl,h0,hz⟩
 have fH:(vhi=none/\vmx=none/\h1.v=len.v) \/ ∃ k z,vhi=some (.int k z)/\0<=z/\h1.v=z.toNat:=by
  cases hi with
  | none =>
    have:mx=none:=by
      cases mx with
      | none=>rfl
      | some s=>exact absurd rfl (hmh (by simp))
    simp only at e2;cases e2
    exact .inl ⟨hhi' rfl,hmx' this,rfl⟩
  | some s =>
    obtain⟨v,rfl,hd⟩:=hhi s rfl
    obtain⟨k,z,rfl,h0,hz⟩:=qg3 hΩ e2 hd p2
    exact .inr ⟨k,z,rfl,h0,hz⟩
 have fL:(vlo=none/\l1.v=0) \/ ∃ k z,vlo=some (.int k z)/\0<=z/\l1.v=z.toNat:=by
  cases lo with
  | none=>simp only at e1;cases e1;exact .inl ⟨hlo' rfl,rfl⟩
  | some s =>
    obtain⟨v,rfl,hd⟩:=hlo s rfl
    obtain⟨k,z,rfl,h0,hz⟩:=qg3 hΩ e1 hd p1
    exact .inr ⟨k,z,rfl,h0,hz⟩
 clear hmx hmx' hhi hhi' hlo hlo' hmh e1 e2 e3 p1 p2 p3
 have rb : ∀ (k:IntKind) (z:Int) (y:Nat) (c:BoundsCode),0<=z->z.toNat<=y->(Instr.sliceBound (.int k z) y c).run P w = .ok z.toNat w:=fun k z y c q1 q2=>qoi q1 q2 w
 rcases fM with⟨rfl,eM⟩|⟨kM,zM,rfl,hM0,eM⟩<;>rcases fH with⟨rfl,hh,eH⟩|⟨kH,zH,rfl,hH0,eH⟩<;>rcases fL with⟨rfl,eL⟩|⟨kL,zL,rfl,hL0,eL⟩ <;>
  first
   | (cases hh;done)
   | (simp only[Instr.sliceBounds,Sem.run_bind,Sem.run_pure,Result.andThen_ok]
      repeat (first|rw[rb _ _ _ _ (by assumption) (by omega)]|simp only[Result.andThen_ok,Sem.run_bind,Sem.run_pure])
      simp only[eM,eH,eL])
theorem qg4 (R:Rel E ρ H ts h top a w) (x:Option Operand):(∀ s,x.map (evl E ts)=some s -> ∃ v,x.map a.eval=some v/\Den ρ H s v)/\(x.map (evl E ts)=none->x.map a.eval=none):=by
 cases x with
 | none=>simp
 | some x=>simp only[Option.map_some,Option.some.injEq,reduceCtorEq,false_implies,and_true];rintro s rfl;exact⟨_,rfl,R.den1 x⟩
include hE
theorem qoj (R:Rel E ρ H ts h top a w) {t:TypeId} {x:Operand} {lo hi mx:Option Operand} (hop:o.op = .slice t x lo hi mx) :
  qM P E ρ H h top a w o (qd E ts h o.op):=by
 have hx:=R.den1 x
 have ix:=R.ids1 x
 have oL:=qg4 R lo
 have oH:=qg4 R hi
 have oM:=qg4 R mx
 rw[hop]
 simp only[qd]
 split<;>try trivial
 rename_i hmh
 have hmh':mx.map (evl E ts) ≠ none->hi.map (evl E ts) ≠ none:=by cases mx<;>cases hi<;>simp_all
 generalize evl E ts x=sx at hx ix
 generalize hi.map (evl E ts)=shi at oH hmh'
 generalize lo.map (evl E ts)=slo at oL
 generalize mx.map (evl E ts)=smx at oM hmh'
 have hl1 : ∀ xs,E.Ω.len xs=xs.length:=fun xs=>by rw[hE.om];rfl
 unfold qb6
 simp only[hl1]
 split<;>try trivial
 rename_i ti ht
 have hty:=hE.ty t ti ht
 obtain⟨d,hu,hm⟩:=hty.under
 have eadd : ∀ x y:SN,(x.add E.Ω y).v=x.v+y.v:=fun x y=>by rw[hE.om];exact SN.add_v x y
 have emul : ∀ (x:SN) c,(x.mulc E.Ω c).v=x.v*c:=fun x c=>by rw[hE.om];exact SN.mulc_v c x
 have esub : ∀ x y:SN,(x.sub E.Ω y).v=x.v-y.v:=fun x y=>by rw[hE.om];exact SN.sub_v x y
 split<;>try trivial
 ·rename_i n e hd
  simp only[hd,TDm]at hm
  subst hm
  split<;>try trivial
  rename_i id o1
  split<;>try trivial
  rename_i te p l h' m hte hb
  have hty2:=hE.ty e te hte
  simp only[Den,Rep,List.cons.injEq,and_true]at hx
  split<;>try trivial
  rename_i hin
  simp only[Bool.and_eq_true]at hin
  obtain⟨hn0,hin⟩:=hin
  intro hp
  obtain⟨hrun,q1,q2,q3⟩:=qdq (P:=P) hE.om hb hp oL.1 oL.2 oH.1 oH.2 oM.1 oM.2 hmh' false w
  have en:(SN.l n).v=n:=rfl
  have eo:(SN.l o1).v=o1:=rfl
  rw[en]at hrun q3
  rw[eo]at hx
  have hboth:(ρ id).g=false/\o1+n*te.size<=(ρ id).room:=by
   ·
    have hpos:0<n*te.size:=Nat.mul_pos (Nat.le_of_ble_eq_true hn0) hty2.pos
    have hj:look h id ≠ .junk:=by intro e;rw[e]at hin;simp[qaA]at hin
    rcases R.lies hj with hgh|⟨arr,tt,vs,li⟩
    ·obtain⟨_,_,k,hk⟩:=hgh
     rw[hk]at hin;cases k<;>simp[gho,qaA]at hin
    have:=qb8 li.rep hin hpos
    have:=li.fits
    exact⟨li.real,by omega⟩
  obtain⟨hreal,hroom1⟩:=hboth
  have hroom:False\/o1+n*te.size<=(ρ id).room :=.inr hroom1
  refine⟨.slice (some ⟨(ρ id).b,(if m.v=l.v then (ρ id).o+o1 else (ρ id).o+o1+l.v*te.size),none⟩) (h'.v-l.v) (m.v-l.v),?_,?_,ix⟩
  ·simp only[execOp,hop,Instr.sliceAt,Sem.run_bind,qA hu,Result.andThen_ok,hx,Instr.sureAddr,hrun,hty2.run_sizeOf,Sem.run_pure,qbi]
   by_cases hq:m.v=l.v
   ·simp only[if_pos hq]
   ·simp only[if_neg hq]
  ·simp only[Den,Rep,List.cons.injEq,and_true]
   refine⟨_,by rw[esub,esub],?_,?_,?_,fun _=>⟨_,rfl,?_⟩⟩
   ·rw[esub,esub];omega
   ·rw[esub,eadd,emul,eo]
    rcases hroom with hr|hr
    ·exact hr.elim
    ·have:l.v*te.size+(m.v-l.v)*te.size<=n*te.size:=by
      rw[<- Nat.add_mul];exact Nat.mul_le_mul_right _ (by omega)
     omega
   ·intro hg;rw[hreal]at hg;cases hg
   ·rw[esub,eadd,emul,eo]
    intro hne
    rw[if_neg (by omega),Nat.add_assoc]
 ·rename_i e hd
  simp only[hd,TDm]at hm
  subst hm
  have hbd : ∀ (N c:Nat) (p:Unit->Prop) (l h' m:SN),qax E (.s N) (.s N) slo shi smx=some (p,l,h',m)->p ()->N<=c ->
    ∃ m':Nat,(Instr.sliceBounds true N c (lo.map a.eval) (hi.map a.eval) (mx.map a.eval)).run P w = .ok (l.v,h'.v,m') w/\l.v<=h'.v/\h'.v<=m'/\h'.v<=N:=by
   intro N c p l h' m hb hp hle
   cases hsm:smx with
   | none =>
     subst hsm
     have hb3:qax E (.s N) (.l c) slo shi none=some (fun _=>qaF slo/\qaF shi/\qaF none/\l.v<=h'.v/\h'.v<=(SN.l c).v/\(SN.l c).v<=(SN.l c).v,l,h',.l c):=by
       unfold qax at hb ⊢
       simp only at hb ⊢
       split at hb<;>try (cases hb;done)
       rename_i l1 h1 m1 e1 e2 e3
       simp only[Option.some.injEq,Prod.mk.injEq]at hb
       obtain⟨_,rfl,rfl,_⟩:=hb
       rw[e1,e2]
     have hp3:qaF slo/\qaF shi/\l.v<=h'.v/\h'.v<=N:=by
       unfold qax at hb
       simp only at hb
       split at hb<;>try (cases hb;done)
       rename_i l1 h1 m1 e1 e2 e3
       simp only[Option.some.injEq,Prod.mk.injEq]at hb
       obtain⟨rfl,rfl,rfl,rfl⟩:=hb
       obtain⟨p1,p2,p3,p4,p5,p6⟩:=hp
       have e6:(SN.s N).v=N:=rfl
       exact⟨p1,p2,p4,by omega⟩
     obtain⟨q1,q2,q3,q4⟩:=hp3
     obtain⟨hrun,g1,g2,g3⟩:=qdq (P:=P) hE.om hb3 ⟨q1,q2,trivial,q3,by have e6:(SN.l c).v=c:=rfl;omega,Nat.le_refl _⟩ oL.1 oL.2 oH.1 oH.2 oM.1 oM.2 hmh' true w
     exact⟨c,hrun,q3,by omega,q4⟩
   | some mv =>
     subst hsm
     have hb3:qax E (.s N) (.l c) slo shi (some mv)=some (fun _=>qaF slo/\qaF shi/\qaF (some mv)/\l.v<=h'.v/\h'.v<=m.v/\m.v<=(SN.l c).v,l,h',m):=by
       unfold qax at hb ⊢
       simp only at hb ⊢
       split at hb<;>try (cases hb;done)
       rename_i l1 h1 m1 e1 e2 e3
       simp only[Option.some.injEq,Prod.mk.injEq]at hb
       obtain⟨_,rfl,rfl,rfl⟩:=hb
       first|rfl|rw[e1,e2,e3]
     have hp3:qaF slo/\qaF shi/\qaF (some mv)/\l.v<=h'.v/\h'.v<=m.v/\m.v<=N:=by
       unfold qax at hb
       simp only at hb
       split at hb<;>try (cases hb;done)
       rename_i l1 h1 m1 e1 e2 e3
       simp only[Option.some.injEq,Prod.mk.injEq]at hb
       obtain⟨rfl,rfl,rfl,rfl⟩:=hb
       exact hp
     obtain⟨p1,p2,p3,q1,q2,q3⟩:=hp3
     obtain⟨hrun,_⟩:=qdq (P:=P) hE.om hb3 ⟨p1,p2,p3,q1,q2,by have e6:(SN.l c).v=c:=rfl;omega⟩ oL.1 oL.2 oH.1 oH.2 oM.1 oM.2 hmh' true w
     exact⟨m.v,hrun,q1,q2,by omega⟩
  split<;>try trivial
  ·rename_i id es off len cap
   split<;>try trivial
   rename_i te hte
   split<;>try trivial
   rename_i p l h' m hes hb
   have hes:=Nat.eq_of_beq_eq_true hes
   have hty2:=hE.ty e te hte
   intro hp
   obtain⟨hrun,q1,q2,q3⟩:=qdq (P:=P) hE.om hb hp oL.1 oL.2 oH.1 oH.2 oM.1 oM.2 hmh' true w
   simp only[Den,Rep,List.cons.injEq,and_true]at hx
   obtain⟨ad,hx,hlc,hroom,hgh,hre⟩:=hx
   refine⟨.slice (if m.v=l.v then ad else ad.map (·.add (l.v*te.size))) (h'.v-l.v) (m.v-l.v),?_,?_,ix⟩
   ·simp only[execOp,hop,Instr.sliceAt,Sem.run_bind,qA hu,Result.andThen_ok,Instr.slice,hx,hrun,hty2.run_sizeOf,Sem.run_pure]
   ·simp only[Den,Rep,List.cons.injEq,and_true]
    refine⟨_,by rw[esub,esub],?_,?_,?_,?_⟩
    ·rw[esub,esub];omega
    ·rw[esub,eadd,emul]
     have:l.v*es+(m.v-l.v)*es<=cap.v*es:=by
      rw[<- Nat.add_mul];exact Nat.mul_le_mul_right _ (by omega)
     omega
    ·intro hg
     obtain⟨rfl,hc0⟩:=hgh hg
     rw[esub]
     exact⟨by simp,by omega⟩
    ·intro hg
     obtain⟨o',rfl,ho'⟩:=hre hg
     refine⟨if m.v=l.v then o' else o'+l.v*te.size,?_,?_⟩
     ·by_cases hq:m.v=l.v
      ·simp only[if_pos hq]
      ·simp only[if_neg hq,Option.map_some,qbi]
     ·rw[esub,eadd,emul]
      intro hne
      rw[if_neg (by omega),ho' (by omega),hes,Nat.add_assoc]
  ·split<;>try trivial
   rename_i te p l h' m hte hb
   have hty2:=hE.ty e te hte
   intro hp
   obtain⟨hrun,q1,q2,q3⟩:=qdq (P:=P) hE.om hb hp oL.1 oL.2 oH.1 oH.2 oM.1 oM.2 hmh' true w
   simp only[Den,Rep,List.cons.injEq,and_true]at hx
   have e0:(SN.l 0).v=0:=rfl
   rw[e0]at hrun q3
   have em:m.v=0:=by omega
   have eh:h'.v=0:=by omega
   have el:l.v=0:=by omega
   refine⟨.slice none 0 0,?_,by simp only[Den,Rep,List.cons.injEq,and_true];trivial,trivial⟩
   simp only[execOp,hop,Instr.sliceAt,Sem.run_bind,qA hu,Result.andThen_ok,Instr.slice,hx.1,hrun,hty2.run_sizeOf,Sem.run_pure,em,eh,el]
   rfl
  ·rename_i k xs
   have key : ∀ te p l h' m,E.T e=some te->Nat.beq te.size 1=true->qax E (.s xs.length) (.s xs.length) slo shi smx=some (p,l,h',m)->p () ->
     q8 P ρ H top a w o (.roi k (E.Ω.sub xs l.v (h'.sub E.Ω l).v)):=by
    intro te p l h' m hte hsz hb hp
    have hsz:=Nat.eq_of_beq_eq_true hsz
    have hty2:=hE.ty e te hte
    simp only[Den,Rep,List.cons.injEq,and_true]at hx
    obtain⟨v,e1,aa,c,e2,hle,hro⟩:=hx
    subst e1
    have hb2:=hbd xs.length c p l h' m hb hp hle
    obtain⟨m',hrun,q1,q2,q3⟩:=hb2
    refine⟨.slice (if m'=l.v then aa else aa.map (·.add (l.v*te.size))) (h'.v-l.v) (m'-l.v),?_,?_,trivial⟩
    ·simp only[execOp,hop,Instr.sliceAt,Sem.run_bind,qA hu,Result.andThen_ok,Instr.slice,e2,hrun,hty2.run_sizeOf,Sem.run_pure]
    ·simp only[Den,Rep,List.cons.injEq,and_true]
     rw[hE.om]
     have hlen:(Om.real.sub xs l.v (h'.sub Om.real l).v).length=h'.v-l.v:=by
      rw[SN.sub_v];simp[Om.real];omega
     refine⟨_,rfl,_,_,by rw[hlen],by rw[hlen];omega,fun j x hj => ?_⟩
     have hj':xs[l.v+j]?=some x/\j<h'.v-l.v:=by
      have:j<h'.v-l.v:=by
       have:=(List.getElem?_eq_some_iff.1 hj).1
       omega
      refine⟨?_,this⟩
      rw[SN.sub_v]at hj
      simpa[Om.real,List.getElem?_take,this]using hj
     obtain⟨b,o1,ha,hc⟩:=hro _ _ hj'.1
     subst ha
     rw[if_neg (by omega),hsz,Nat.mul_one]
     refine⟨b,o1+l.v,by simp[qbi],?_⟩
     rw[Nat.add_assoc];exact hc
   split<;>try trivial
   ·rename_i te hte
    split<;>try trivial
    rename_i p l h' m hsz hb
    exact fun hp=>key te p l h' m hte hsz hb hp
   ·rename_i mv te hte
    split<;>try trivial
    rename_i p l h' m hsz hb
    exact fun hp=>key te p l h' m hte hsz hb hp
  ·rename_i k xss
   split<;>try trivial
   rename_i te hte
   split<;>try trivial
   rename_i p l h' m hsz hb
   intro hp
   have hsz:=Nat.eq_of_beq_eq_true hsz
   have hty2:=hE.ty e te hte
   simp only[Den,Rep,List.cons.injEq,and_true]at hx
   obtain⟨aa,c,e2,hle,hro⟩:=hx
   rw[show E.Ω.len2 xss=xss.length by rw[hE.om];rfl]at hb
   obtain⟨m',hrun,q1,q2,q3⟩:=hbd xss.length c p l h' m hb hp hle
   refine⟨.slice (if m'=l.v then aa else aa.map (·.add (l.v*te.size))) (h'.v-l.v) (m'-l.v),?_,?_,trivial⟩
   ·simp only[execOp,hop,Instr.sliceAt,Sem.run_bind,qA hu,Result.andThen_ok,Instr.slice,e2,hrun,hty2.run_sizeOf,Sem.run_pure]
   ·simp only[Den,Rep,List.cons.injEq,and_true]
    rw[hE.om]
    have hlen:(Om.real.sub2 xss l.v (h'.sub Om.real l).v).length=h'.v-l.v:=by
     rw[SN.sub_v];simp[Om.real];omega
    refine⟨_,_,by rw[hlen],by rw[hlen];omega,fun j x hj => ?_⟩
    have hj':xss[l.v+j]?=some x/\j<h'.v-l.v:=by
     have:j<h'.v-l.v:=by
      have:=(List.getElem?_eq_some_iff.1 hj).1
      omega
     refine⟨?_,this⟩
     rw[SN.sub_v]at hj
     simpa[Om.real,List.getElem?_take,this]using hj
    obtain⟨b,o1,u,ha,hc,hu2⟩:=hro _ _ hj'.1
    subst ha
    rw[if_neg (by omega),hsz,Nat.mul_one]
    refine⟨b,o1+l.v,u,by simp[qbi],?_,hu2⟩
    rw[Nat.add_assoc];exact hc
end
end Go.Sx
end
section
namespace Go.Sx
section
variable {P:Program} {E:Env} (hE:EnvOk P E) {ρ:Rho} {H:Snap} {ts:List SVal} {h:Heap} {top:Top} {a:Act} {w:World} {o:Oper}
include hE
theorem qok (R:Rel E ρ H ts h top a w) {t:TypeId} {x:Operand} (hop:o.op = .sliceToArrayPointer t x):qM P E ρ H h top a w o (qd E ts h o.op):=by
 have hx:=R.den1 x
 have ix:=R.ids1 x
 rw[hop]
 simp only[qd]
 split<;>try trivial
 rename_i ti ht
 obtain⟨d,hu,hm⟩:=(hE.ty t ti ht).under
 split<;>try trivial
 rename_i n e hd
 simp only[hd,TDm]at hm
 subst hm
 split<;>try trivial
 ·rename_i id es off len cap h1
  rw[h1]at hx ix
  simp only[Den,Rep,List.cons.injEq,and_true]at hx
  obtain⟨ad,hx,hlc,_,hgh,hre⟩:=hx
  intro hp
  obtain⟨hn0,hp⟩:=hp
  have hg0:(ρ id).g=false:=by
   rcases Bool.eq_false_or_eq_true (ρ id).g with hg|hg
   ·have:=(hgh hg).2;omega
   ·exact hg
  obtain⟨o',rfl,ho'⟩:=hre hg0
  refine⟨.pointer (some ⟨(ρ id).b,o',none⟩),?_,?_,ix⟩
  ·simp[execOp,hop,hx,Instr.arrayAt,qA hu,show ¬ len.v<n by omega]
  ·rw[ho' (by omega)];simp only[Den,Rep]
 ·rename_i k xs h1
  rw[h1]at hx
  simp only[Den,Rep,List.cons.injEq,and_true]at hx
  obtain⟨v,e1,aa,c,e2,hle,hro⟩:=hx
  subst e1
  intro hp
  obtain⟨hn0,hp⟩:=hp
  obtain⟨b,o',ha,_⟩:=hro 0 (xs[0]'(by omega)) (List.getElem?_eq_getElem (by omega))
  subst ha
  refine⟨.pointer (some ⟨b,o',none⟩),?_,?_,trivial⟩
  ·simp[execOp,hop,e2,Instr.arrayAt,qA hu,show ¬ xs.length<n by omega]
  ·refine qdp (off :=.l 0) rfl (ws:=xs.map (Value.int k)) (by simp only[Rep]) fun j u hj => ?_
   rw[List.getElem?_map,Option.map_eq_some_iff]at hj
   obtain⟨xx,hj1,rfl⟩:=hj
   obtain⟨b',o'',hb,hc'⟩:=hro j xx hj1
   cases hb
   exact hc'
theorem qol (R:Rel E ρ H ts h top a w) {t:TypeId} {x y:Operand} (hop:o.op = .index t x y):qM P E ρ H h top a w o (qd E ts h o.op):=by
 have hx:=R.den1 x
 have ix:=R.ids1 x
 have hy:=R.den1 y
 rw[hop]
 simp only[qd]
 generalize evl E ts x=sx at hx ix
 generalize evl E ts y=sy at hy
 split<;>try trivial
 rename_i ti ht
 obtain⟨d,hu,hm⟩:=(hE.ty t ti ht).under
 split<;>try trivial
 rotate_left
 ·rename_i hd
  simp only[hd,TDm]at hm
  subst hm
  split<;>try trivial
  rename_i s
  split<;>try trivial
  rename_i p i hidx
  refine qba hE fun hp => ?_
  obtain⟨k,z,hz,h0,h1,h2⟩:=qa9 hE.om hidx hy hp
  simp only[SN.v]at h1
  have hv:a.eval x = .string s:=by simp only[Den,Rep]at hx;simpa using hx.1
  have hlt:z.toNat<s.size:=by omega
  have e1:s[z.toNat]?=some s[z.toNat]:=getElem?_pos s z.toNat hlt
  refine⟨.int .u8 (s[z.toNat]).toNat,?_,?_,trivial⟩
  ·simp[execOp,hop,hv,hz,Instr.index,asIntOf,qA hu,h0,e1]
  ·rw[h2,hE.om]
   have e2:(strB s).getD z.toNat 0=((s[z.toNat]).toNat:Int):=by
    have hl:z.toNat<s.data.toList.length:=by simpa using hlt
    simp only[strB,List.getD_eq_getElem?_getD,List.getElem?_map,List.getElem?_eq_getElem hl,Option.map_some,Option.getD_some]
    rfl
   simp only[Den,Rep,Om.real,e2]
 rename_i n e hd
 simp only[hd,TDm]at hm
 subst hm
 split<;>try trivial
 rename_i te p i hte hidx
 have hty2:=hE.ty e te hte
 have emul : ∀ (x:SN) c,(x.mulc E.Ω c).v=x.v*c:=fun x c=>by rw[hE.om];exact SN.mulc_v c x
 have run:(∀ q,p=some q->q ()) -> ∀ vs:List Value,a.eval x = .agg vs.toArray->i.v*te.size+te.size<=vs.length ->
   ∃ v,(execOp a.eval o).run P w = .ok (.value v) w/\(te.agg=true->v = .agg ((vs.drop (i.v*te.size)).take te.size).toArray)/\(te.agg=false->vs[i.v*te.size]?=some v):=by
  intro hp vs hv hlen
  obtain⟨k,z,hz,h0,h1,h2⟩:=qa9 hE.om hidx hy hp
  simp only[SN.v]at h1
  obtain⟨v,r1,r2,r3⟩:=qjz (P:=P) hE hty2 hlen w
  refine⟨v,?_,r2,r3⟩
  rw[h2]at r1
  simp[execOp,hop,hv,hz,Instr.index,asIntOf,qA hu,h0,h1,hty2.run_sizeOf,r1]
 split
 ·rename_i o1 hmul
  split<;>try trivial
  rename_i hc
  simp only[Bool.and_eq_true]at hc
  obtain⟨vs,hv,hr⟩:=qjA hE hx hc.1
  have hlen:=qb8 hr hc.2 hty2.pos
  have hio:i.v*te.size=o1:=by rw[<- emul,hmul];rfl
  refine qba hE fun hp => ?_
  obtain⟨v,r1,r2,r3⟩:=run hp vs hv (by omega)
  rw[hio]at r2 r3
  exact⟨v,r1,qdj hE.om _ o1 te.size te.agg hr hlen hty2.one v r2 r3,qbv _ _ _ _ ix⟩
 ·rename_i o1 hmul
  have hio:i.v*te.size=o1:=by rw[<- emul,hmul];rfl
  split<;>try trivial
  ·rename_i k m xs hag
   split<;>try trivial
   rename_i hm
   have hm:=Nat.eq_of_beq_eq_true hm
   simp only[Den]at hx
   refine qba hE fun hp => ?_
   obtain⟨kz,z,hz,h0,h1,h2⟩:=qa9 hE.om hidx hy hp
   simp only[SN.v]at h1
   have hone:=hty2.one hag
   have hlt:o1<xs.length:=by
    rw[hx.1,hm,<- hio,hone,h2];omega
   obtain⟨v,r1,_,r3⟩:=run hp _ hx.2 (by rw[hio,hone,List.length_map];omega)
   have r3:=r3 hag
   rw[hio,List.getElem?_map,List.getElem?_eq_getElem hlt]at r3
   simp only[Option.map_some,Option.some.injEq]at r3
   refine⟨v,r1,?_,trivial⟩
   rw[<- r3,hE.om]
   simp[Den,Rep,Om.real,List.getD,List.getElem?_eq_getElem hlt]
theorem qom (R:Rel E ρ H ts h top a w) {t:TypeId} {x y:Operand} (hop:o.op = .makeSlice t x y):qM P E ρ H h top a w o (qd E ts h o.op):=by
 have hx:=R.den1 x
 have hy:=R.den1 y
 rw[hop]
 simp only[qd]
 generalize evl E ts x=sx at hx
 generalize evl E ts y=sy at hy
 split<;>try trivial
 rename_i ti ht
 obtain⟨d,hu,hm⟩:=(hE.ty t ti ht).under
 split<;>try trivial
 rename_i e hd
 simp only[hd,TDm]at hm
 subst hm
 split<;>try trivial
 rename_i te hte
 have hty2:=hE.ty e te hte
 obtain⟨z0,hz1,hz2,hz3⟩:=hty2.run_zero w
 obtain⟨inf,hinf,hby⟩:=hty2.run_info w
 have key0 : ∀ (u:Value) n m kn km,z0.cells = #[u]->te.size=1->a.eval x = .int kn n->a.eval y = .int km m->0<=n->n<=m->te.bytes*m.toNat<=140737488355328->m<=140737488355328 ->
   (execOp a.eval o).run P w = .ok (.value (.slice (some ⟨w.heap.size,0,none⟩) n.toNat m.toNat)) (w.alloc (.cells (List.replicate m.toNat u).toArray e)):=by
  intro u n m kn km hcells hsz hn hm0 h0 hnm hb hm1
  have wr : ∀ i:Int,0<=i->i<=140737488355328->IntKind.i64.wrap i=i:=by
   intro i h1 h2
   have e1:i % 18446744073709551616=i:=Int.emod_eq_of_lt h1 (by omega)
   simp only[IntKind.wrap,IntKind.bits,IntKind.signed,Bool.true_and,decide_eq_true_eq,Int.reducePow,e1]
   rw[if_neg (by omega)]
  have hbm:((te.bytes:Int)*m)<=140737488355328:=by
   have:((te.bytes*m.toNat:Nat):Int)<=140737488355328:=by omega
   rw[Int.natCast_mul,Int.toNat_of_nonneg (by omega)]at this
   exact this
  have hbn:((te.bytes:Int)*n)<=140737488355328:=Int.le_trans (Int.mul_le_mul_of_nonneg_left hnm (by omega)) hbm
  simp only[execOp,hop,Instr.makeSlice,hn,hm0,Sem.run_bind,qA hu,Result.andThen_ok,asInt,asIntOf,Sem.run_pure,hinf,hby,wr m (by omega) hm1,wr n h0 (by omega)]
  rw[if_neg (by simp;omega)]
  simp only[Sem.run_bind,run_askRoom,Result.andThen_ok,hty2.run_sizeOf,hsz,Nat.mul_one]
  by_cases hz0:m.toNat=0
  ·have e0:(Array.range 0).map (fun _=>(default:Value)) = #[]:=by apply Array.ext';simp
   simp[hz0,newRow,e0]
  ·have e0:(Array.range m.toNat).map (fun x=>([u]:List Value)[x % 1]?.getD default)=Array.replicate m.toNat u:=by
    apply Array.ext'
    simp only[Nat.mod_one,Array.toList_map,Array.toList_replicate]
    simp only[List.length_cons,List.length_nil,Nat.zero_add,Nat.zero_lt_one,getElem?_pos,List.getElem_cons_zero,Option.getD_some,List.map_const']
    simp
   simp[hz0,hz1,hcells,newRow,e0]
 have key : ∀ k z n m kn km,te.zero = .lit k z->z=0->te.size=1->a.eval x = .int kn n->a.eval y = .int km m->0<=n->n<=m->te.bytes*m.toNat<=140737488355328->m<=140737488355328 ->
   (execOp a.eval o).run P w = .ok (.value (.slice (some ⟨w.heap.size,0,none⟩) n.toNat m.toNat)) (w.alloc (.cells ((List.replicate m.toNat (0:Int)).map (Value.int k)).toArray e)):=by
  intro k z n m kn km hzero hz hsz hn hm0 h0 hnm hb hm1
  have hcells:z0.cells = #[.int k 0]:=by
   have:=(hz3 ρ H).2
   rw[hzero]at this
   simp only[Rep]at this
   apply Array.ext'
   rw[this,hz]
  rw[List.map_replicate]
  exact key0 _ n m kn km hcells hsz hn hm0 h0 hnm hb hm1
 split<;>try trivial
 ·rename_i k z kn n km m hzero
  split<;>try trivial
  rename_i hc
  simp only[Bool.and_eq_true,decide_eq_true_eq]at hc
  obtain⟨c1,c2,c3,c4,c5,c6⟩:=hc
  have c2:=Nat.eq_of_beq_eq_true c2
  have c5:=Nat.le_of_ble_eq_true c5
  have c6:=Nat.le_of_ble_eq_true c6
  simp only[Den,Rep,List.cons.injEq,and_true]at hx hy
  have:=key k z n m kn km hzero c1 c2 hx hy c3 c4 (by omega) (by omega)
  refine⟨_,_,_,_,this,?_,trivial,rfl,?_⟩
  ·simp only[Rep];rw[hE.om];simp[Om.real]
  ·intro ρ' id e'
   refine⟨?_,rfl⟩
   simp only[Den,Rep,List.cons.injEq,and_true,e',SN.v]
   refine⟨_,rfl,by omega,by simp,by (intro hg;cases hg),fun _=>⟨_,rfl,fun _=>rfl⟩⟩
 ·rename_i k z kn n km m hzero
  split<;>try trivial
  rename_i hc
  simp only[Bool.and_eq_true,decide_eq_true_eq]at hc
  obtain⟨c1,c2⟩:=hc
  have c2:=Nat.eq_of_beq_eq_true c2
  simp only[Den,Rep,List.cons.injEq,and_true]at hx hy
  intro hp
  obtain⟨q1,q2,q3,q4⟩:=hp
  have:=key k z n m kn km hzero c1 c2 hx hy q1 (by omega) q3 q4
  refine⟨_,_,_,_,this,?_,trivial,rfl,?_⟩
  ·simp only[Rep];rw[hE.om];simp[Om.real]
  ·intro ρ' id e'
   refine⟨?_,rfl⟩
   rw[hE.om]
   simp only[Den,Rep,List.cons.injEq,and_true,e',SN.v]
   refine⟨_,rfl,by simp only[Om.real];omega,by simp[Om.real],by (intro hg;cases hg),fun _=>⟨_,rfl,fun _=>rfl⟩⟩
 ·rename_i kn n km m hzero
  split<;>try trivial
  rename_i hc
  have c2:=Nat.eq_of_beq_eq_true hc
  simp only[Den,Rep,List.cons.injEq,and_true]at hx hy
  intro hp
  obtain⟨q1,q2,q3,q4⟩:=hp
  have hcells:z0.cells = #[.slice none 0 0]:=by
   have:=(hz3 ρ H).2
   rw[hzero]at this
   simp only[Rep]at this
   apply Array.ext'
   rw[this.1]
  have:=key0 _ n m kn km hcells c2 hx hy q1 (by omega) q3 q4
  refine⟨_,_,_,List.replicate m.toNat (.slice none 0 0),this,?_,trivial,rfl,?_⟩
  ·rw[hE.om]
   simp only[Rep,RepV]
   refine⟨[],List.replicate m.toNat (.slice none 0 0),rfl,rfl,fun v hv=>by simp at hv,by simp[Om.real],fun j xs hj => ?_⟩
   have hj':(List.replicate m.toNat ([]:List Int))[j]?=some xs:=hj
   rw[List.getElem?_replicate]at hj' ⊢
   split at hj'<;>cases hj'
   rename_i hlt
   rw[if_pos hlt]
   exact⟨_,rfl,none,0,rfl,Nat.le_refl _,fun i x hi=>by simp at hi⟩
  ·intro ρ' id e'
   refine⟨?_,rfl⟩
   rw[hE.om]
   simp only[Den,Rep,List.cons.injEq,and_true,e',SN.v]
   refine⟨_,rfl,by simp only[Om.real];omega,by simp[Om.real],by (intro hg;cases hg),fun _=>⟨_,rfl,fun _=>rfl⟩⟩
end
end Go.Sx
end
section
namespace Go.Sx
section
variable {P:Program} {E:Env} (hE:EnvOk P E) {ρ:Rho} {H:Snap} {ts:List SVal} {h:Heap} {top:Top} {a:Act} {w:World} {o:Oper}
theorem qjB (us:List Value) : ∀ (k off:Nat) (cells:Array Value),off+k+us.length<=cells.size ->
  ((us.zipIdx k).foldl (fun cs (x:Value × Nat)=>cs.setIfInBounds (off+x.2) x.1) cells).toList=cells.toList.take (off+k)++us++cells.toList.drop (off+k+us.length):=by
 induction us with
 | nil=>intro k off cells _;simp
 | cons u us ih =>
   intro k off cells hl
   simp only[List.length_cons]at hl
   simp only[List.zipIdx_cons,List.foldl_cons]
   rw[ih (k+1) off _ (by simp;omega)]
   have hlt:off+k<cells.size:=by omega
   simp only[Array.toList_setIfInBounds,List.length_cons]
   rw[List.take_set,List.drop_set,if_pos (by omega)]
   rw[show off+(k+1)=off+k+1 by omega,List.take_succ_eq_append_getElem (by simpa using hlt),show off+k+1+us.length=off+k+(us.length+1)by omega]
   rw[List.set_append_right _ _ (by simp;omega)]
   simp[Nat.min_eq_left (Nat.le_of_lt hlt)]
include hE
theorem qg5 (R:Rel E ρ H ts h top a w) {place place':Nat->Option (Nat × Nat)} (hpl : ∀ i x,place' i=some x->place i=some x) : ∀ (parts:List (Nat × Operand)) {c c':SVal} {cells:Array Value},
  fillP E ts place' parts c=some c'->Rep ρ H c cells.toList->IdsLt top c ->
  ∃ cells',Instr.fill place cells (parts.map fun p=>(p.1,a.eval p.2))=some cells'/\Rep ρ H c' cells'.toList/\IdsLt top c'
 | [],c,c',cells,hf,hr,hi=>by
   simp only[fillP,Option.some.injEq]at hf
   subst hf
   exact⟨cells,rfl,hr,hi⟩
 | (i,x) :: parts,c,c',cells,hf,hr,hi=>by
   simp only[fillP]at hf
   split at hf<;>try (cases hf;done)
   rename_i off sz hp
   split at hf<;>try (cases hf;done)
   rename_i hc
   simp only[Bool.and_eq_true]at hc
   obtain⟨c0',c1',c2,c3,c4,c5⟩:=hc
   have c0:0<sz:=Nat.le_of_ble_eq_true c0'
   have c1:=Nat.eq_of_beq_eq_true c1'
   clear c0' c1'
   have hd:=R.den1 x
   have hrep:=hd.cells c3 c2
   have hul:(a.eval x).cells.toList.length=sz:=by
     rw[<- c1]
     generalize evl E ts x=s at *
     cases s<;>simp only[SVal.isOne,SVal.isAgg,Bool.or_self,Bool.false_eq_true]at c2<;>simp only[vsz]at c1 ⊢
     case row=>simp only[Rep]at hrep;rw[hrep.2];simpa using hrep.1
     case agg l=>simp only[Rep]at hrep;exact RepC.len l hrep (by omega)
     case ab p=>exact Rep.len _ hrep (by simp only[SVal.sz];have:=p.pos;omega)
     all_goals exact Rep.len _ hrep (by simp[SVal.sz])
   have hlen:=qb8 hr c4 c0
   have hput:=qez hE.om c off sz (evl E ts x) hr hrep c2 hul c0 hlen c5
   have hsz:(a.eval x).cells.size=sz:=by simpa using hul
   have hfold:((a.eval x).cells.zipIdx.foldl (fun cs (x:Value × Nat)=>cs.setIfInBounds (off+x.2) x.1) cells).toList=cells.toList.take off++(a.eval x).cells.toList++cells.toList.drop (off+sz):=by
     rw[<- Array.foldl_toList,Array.toList_zipIdx]
     have:=qjB (a.eval x).cells.toList 0 off cells (by simp at hlen ⊢;omega)
     simpa[hsz]using this
   obtain⟨cells',h1,h2,h3⟩:=qg5 R hpl parts (cells:=(a.eval x).cells.zipIdx.foldl (fun cs (x:Value × Nat)=>cs.setIfInBounds (off+x.2) x.1) cells) hf (by rw[hfold];exact hput) (qdn _ _ _ _ hi (R.ids1 x))
   refine⟨cells',?_,h2,h3⟩
   simp only[List.map_cons,Instr.fill,hpl i _ hp,hsz]
   rw[if_neg (by simp at hlen ⊢;omega)]
   exact h1
omit hE in
theorem qeG (f:Operand->Value) (parts:Array (Nat × Operand)):(parts.map fun(i,x)=>(i,f x)).toList=parts.toList.map fun p=>(p.1,f p.2):=by
 simp
theorem qon (R:Rel E ρ H ts h top a w) {t:TypeId} {parts:Array (Nat × Operand)} (hop:o.op = .build t parts):qM P E ρ H h top a w o (qd E ts h o.op):=by
 rw[hop]
 simp only[qd]
 split<;>try trivial
 rename_i ti ht
 have hty:=hE.ty t ti ht
 obtain⟨z,hz,hs,hd⟩:=hty.run_zero w
 have hzr:=(hd ρ H).2
 have hzi:IdsLt top ti.zero:=IdsLt.mono (fun _ h=>h.elim) _ hty.zid
 have fin : ∀ c (cells':Array Value),c.isAgg=true->Rep ρ H c cells'.toList->IdsLt top c->(execOp a.eval o).run P w = .ok (.value (.agg cells')) w->q8 P ρ H top a w o c:=by
  intro c cells' hag hr hi hrun
  exact⟨_,hrun,Rep.agg' hr hag,hi⟩
 split<;>try trivial
 ·rename_i fs hfs
  split<;>try trivial
  rename_i hall
  split<;>try trivial
  rename_i c hf
  split<;>try trivial
  rename_i hag
  obtain⟨l,hu,hl⟩:=qg1 hty hfs
  obtain⟨d,hu',hm⟩:=hty.under
  simp only[hfs,TDm]at hm
  obtain⟨l',rfl,hfs'⟩:=hm
  rw[hu]at hu'
  cases hu'
  have hT : ∀ f ∈ l,∃ tf,E.T f.type=some tf:=by
   have gen : ∀ (q:List (Nat × TypeId)),allT E q=true -> ∀ x ∈ q,∃ tf,E.T x.2=some tf:=by
    intro q
    induction q with
    | nil=>intro _ x hx;cases hx
    | cons y q ih =>
      intro hq x hx
      simp only[allT,Bool.and_eq_true]at hq
      rcases List.mem_cons.1 hx with rfl|hx
      · exact Option.isSome_iff_exists.1 hq.1
      · exact ih hq.2 x hx
   intro f hf
   exact gen fs hall (f.offset,f.type) (by rw[hfs'];exact List.mem_map.2 ⟨f,by simpa using hf,rfl⟩)
  have hpl : ∃ places:Array (Nat × Nat),(l.mapM (fun f=>do pure (f.offset,<- sizeOf f.type)):Sem (Array (Nat × Nat))).run P w = .ok places w /\
    ∀ i x,(match qbD fs i with|some (o,ft)=>(match E.T ft with|some tf=>some (o,tf.size)|none=>none)|none=>none)=some x->places[i]?=some x:=by
   have gen : ∀ (q:List Field),(∀ f ∈ q,∃ tf,E.T f.type=some tf) -> ∃ ps:List (Nat × Nat),(q.mapM (fun f=>do pure (f.offset,<- sizeOf f.type)):Sem (List (Nat × Nat))).run P w = .ok ps w /\
     ∀ (i:Nat) (f:Field) tf,q[i]?=some f->E.T f.type=some tf->ps[i]?=some (f.offset,tf.size):=by
    intro q
    induction q with
    | nil=>intro _;exact⟨[],rfl,by intro i f tf hi;simp at hi⟩
    | cons f q ih =>
      intro hq
      obtain⟨tf,htf⟩:=hq f (List.mem_cons_self ..)
      obtain⟨ps,h1,h2⟩:=ih fun g hg=>hq g (List.mem_cons_of_mem _ hg)
      refine⟨(f.offset,tf.size) :: ps,?_,?_⟩
      · simp only[List.mapM_cons,Sem.run_bind,(hE.ty _ _ htf).run_sizeOf,Result.andThen_ok,Sem.run_pure,h1]
      · intro i g tg hi htg
        cases i with
        | zero=>simp at hi;subst hi;rw[htf]at htg;cases htg;rfl
        | succ i=>simpa using h2 i g tg (by simpa using hi) htg
   obtain⟨ps,h1,h2⟩:=gen l.toList (by intro f hf;exact hT f (by simpa using hf))
   refine⟨ps.toArray,?_,?_⟩
   ·rw[Array.mapM_eq_mapM_toList]
    simp only[Sem.run_map,h1,Result.andThen_ok]
   ·intro i x hx
    split at hx<;>try (cases hx;done)
    rename_i oo ft hfo
    split at hx<;>try (cases hx;done)
    rename_i tf htf
    cases hx
    obtain⟨fl,g1,g2,g3⟩:=hl i oo ft hfo
    have:=h2 i fl tf (by simpa using g1) (by rw[g3];exact htf)
    rw[<- g2]
    simpa using this
  obtain⟨places,hp1,hp2⟩:=hpl
  obtain⟨cells',h1,h2,h3⟩:=qg5 hE R (place:=fun i=>places[i]?) hp2 parts.toList hf hzr hzi
  refine fin c cells' hag h2 h3 ?_
  simp only[execOp,hop,Instr.build,Sem.run_bind,hz,Result.andThen_ok,qA hu,hp1,Sem.run_pure,qeG,h1]
 ·rename_i n e hd'
  split<;>try trivial
  rename_i te hte
  split<;>try trivial
  rename_i c hf
  split<;>try trivial
  rename_i hag
  obtain⟨d,hu,hm⟩:=hty.under
  simp only[hd',TDm]at hm
  subst hm
  obtain⟨cells',h1,h2,h3⟩:=qg5 hE R (place:=fun i=>some (i*te.size,te.size)) (fun _ _ h=>h) parts.toList hf hzr hzi
  refine fin c cells' hag h2 h3 ?_
  simp only[execOp,hop,Instr.build,Sem.run_bind,hz,Result.andThen_ok,qA hu,(hE.ty e te hte).run_sizeOf,Sem.run_pure,qeG,h1]
theorem qoo (R:Rel E ρ H ts h top a w) {c:Call} (hop:o.op = .call c) (hc:c.callee = .builtin .len) {t:TypeId} {x:Operand} (ht:c.argTypes[0]?=some t) (hx:c.args = #[x]) :
  qM P E ρ H h top a w o (lenS E t (evl E ts x)):=by
 have hd:=R.den1 x
 have run : ∀ v,(Builtin.len_ c.argTypes o.type #[a.eval x]).run P w = .ok v w->(execOp a.eval o).run P w = .ok (.value v) w:=by
  intro v hv
  simp[execOp,hop,resolve,hc,hx,invoke,builtin,hv]
 unfold lenS
 split<;>try trivial
 rename_i ti hT
 obtain⟨d,hu,hm⟩:=(hE.ty t ti hT).under
 have hlen : ∀ v,(match d,a.eval x with
   | .string,.string s=>pure (goInt s.size)
   | .array n _,_=>pure (goInt n)
   | .pointer arr,_=>do
     let .array n _ <- underlying arr|stuck "len: pointer to array expected"
     pure (goInt n)
   | .slice _,.slice _ n _=>pure (goInt n)
   | _,_=>stuck "" : Sem Value).run P w = .ok v w->(Builtin.len_ c.argTypes o.type #[a.eval x]).run P w = .ok v w:=by
  intro v hv
  simp only[Builtin.len_,ht]
  simp only[List.getElem?_toArray,List.getElem?_cons_zero,Sem.run_bind,qA hu,Result.andThen_ok]
  split at hv<;>first|(simp_all;done)|(simp_all;exact hv)
 split<;>try trivial
 ·rename_i n e hd'
  simp only[hd',TDm]at hm
  subst hm
  exact setL (run _ (hlen _ rfl))
 ·rename_i e hd'
  simp only[hd',TDm]at hm
  subst hm
  split<;>try trivial
  rename_i te hte
  obtain⟨d2,hu2,hm2⟩:=(hE.ty e te hte).under
  split<;>try trivial
  rename_i n e2 hd2
  simp only[hd2,TDm]at hm2
  subst hm2
  exact setL (run _ (hlen _ (by simp[qA hu2,goInt])))
 ·rename_i e hd'
  simp only[hd',TDm]at hm
  subst hm
  generalize hsx:evl E ts x=sx at hd
  have eo:E.Ω.ofN=fun n:Nat=>(n:Int):=by rw[hE.om];rfl
  have el:E.Ω.len=List.length:=by rw[hE.om];rfl
  have el2:E.Ω.len2=List.length:=by rw[hE.om];rfl
  split<;>try trivial
  ·rename_i id es off len cap
   simp only[Den,Rep,List.cons.injEq,and_true]at hd
   obtain⟨ad,hv,_⟩:=hd
   have:=run _ (hlen (goInt len.v) (by rw[hv];rfl))
   unfold lenI
   split
   ·exact setL this
   ·rw[eo];exact setI this
  ·rename_i k xs
   simp only[Den,Rep,List.cons.injEq,and_true]at hd
   obtain⟨v,e1,aa,cc,e2,_⟩:=hd
   subst e1
   rw[eo,el]
   exact setI (run _ (hlen (goInt xs.length) (by rw[e2];rfl)))
  ·rename_i k xs
   simp only[Den,Rep,List.cons.injEq,and_true]at hd
   obtain⟨aa,cc,e2,_⟩:=hd
   rw[eo,el2]
   exact setI (run _ (hlen (goInt xs.length) (by rw[e2];rfl)))
  ·rename_i k es xs
   simp only[Den,Rep,List.cons.injEq,and_true]at hd
   obtain⟨aa,cc,e2,_⟩:=hd
   rw[eo,el2]
   exact setI (run _ (hlen (goInt xs.length) (by rw[e2];rfl)))
  ·rename_i cols n
   simp only[Den,Rep,List.cons.injEq,and_true]at hd
   obtain⟨aa,cc,e2,_⟩:=hd
   rw[eo]
   exact setI (run _ (hlen (goInt n) (by rw[e2];rfl)))
  ·rename_i q
   have hlo:lenO E q=q.len:=by cases q<;>(unfold lenO;rw[hE.om];rfl)
   simp only[Den,Rep,List.cons.injEq,and_true]at hd
   obtain⟨aa,cc,ys,e2,_⟩:=hd
   rw[eo,hlo]
   exact setI (run _ (hlen (goInt q.len) (by rw[e2];rfl)))
  ·simp only[Den,Rep,List.cons.injEq,and_true]at hd
   exact setL (run _ (hlen (goInt (0:Nat)) (by rw[hd.1];rfl)))
 ·rename_i hd'
  simp only[hd',TDm]at hm
  subst hm
  generalize hsx:evl E ts x=sx at hd
  split<;>try trivial
  rename_i s
  simp only[Den,Rep,List.cons.injEq,and_true]at hd
  have e1:E.Ω.ofN (E.Ω.len (strB s))=((s.size:Nat):Int):=by
   rw[hE.om]
   show(((strB s).length:Nat):Int)=_
   simp[strB]
  rw[e1]
  exact setI (run _ (hlen (goInt s.size) (by rw[hd.1];rfl)))
theorem qop (R:Rel E ρ H ts h top a w) {c:Call} (hop:o.op = .call c) (hc:c.callee = .builtin .cap) {t:TypeId} {x:Operand} (ht:c.argTypes[0]?=some t) (hx:c.args = #[x]) :
  qM P E ρ H h top a w o (capS E t (evl E ts x)):=by
 have hd:=R.den1 x
 have run : ∀ v,(Builtin.cap_ c.argTypes o.type #[a.eval x]).run P w = .ok v w->(execOp a.eval o).run P w = .ok (.value v) w:=by
  intro v hv
  simp[execOp,hop,resolve,hc,hx,invoke,builtin,hv]
 unfold capS
 split<;>try trivial
 rename_i ti hT
 obtain⟨d,hu,hm⟩:=(hE.ty t ti hT).under
 split<;>try trivial
 rename_i e hd'
 simp only[hd',TDm]at hm
 subst hm
 generalize hsx:evl E ts x=sx at hd
 have eo:E.Ω.ofN=fun n:Nat=>(n:Int):=by rw[hE.om];rfl
 have hcap : ∀ ad l n,a.eval x = .slice ad l n->(Builtin.cap_ c.argTypes o.type #[a.eval x]).run P w = .ok (goInt n) w:=by
  intro ad l n hv
  simp[Builtin.cap_,ht,qA hu,hv]
 split<;>try trivial
 ·rename_i id es off len cap
  simp only[Den,Rep,List.cons.injEq,and_true]at hd
  obtain⟨ad,hv,_⟩:=hd
  have:=run _ (hcap _ _ _ hv)
  unfold lenI
  split
  ·exact setL this
  ·rw[eo];exact setI this
 ·simp only[Den,Rep,List.cons.injEq,and_true]at hd
  exact setL (run _ (hcap _ _ _ hd.1))
theorem qjC (R:Rel E ρ H ts h top a w) {c:Call} (b:Bool) (hop:o.op = .call c) (hc:c.callee = .builtin (if b then .max else .min)) {x y:Operand} (hx:c.args = #[x,y]) :
  qM P E ρ H h top a w o (mm E b (evl E ts x) (evl E ts y)):=by
 have hdx:=R.den1 x
 have hdy:=R.den1 y
 generalize evl E ts x=sx at hdx
 generalize evl E ts y=sy at hdy
 have run : ∀ k k' n m,a.eval x = .int k n->a.eval y = .int k' m->(execOp a.eval o).run P w = .ok (.value (.int k (if b then max n m else min n m))) w:=by
  intro k k' n m h1 h2
  cases b
  ·simp[execOp,hop,resolve,hc,hx,invoke,builtin,Builtin.min_,Builtin.min2,h1,h2]
   simp only[Int.min_def];split<;>split<;>omega
  ·simp[execOp,hop,resolve,hc,hx,invoke,builtin,Builtin.max_,Builtin.max2,h1,h2]
   simp only[Int.max_def];split<;>split<;>omega
 unfold mm
 split
 ·rename_i k n k' m
  simp only[Den,Rep,List.cons.injEq,and_true]at hdx hdy
  have:=run _ _ _ _ hdx hdy
  cases b<;>exact setL this
 ·split<;>try trivial
  rename_i k n k' m h1 h2
  have:=run _ _ _ _ (qeF h1 hdx) (qeF h2 hdy)
  have e1:E.Ω.imin=min:=by rw[hE.om];rfl
  have e2:E.Ω.imax=max:=by rw[hE.om];rfl
  rw[e1,e2]
  cases b<;>exact setI this
end
end Go.Sx
end
section
namespace Go.Sx
section
variable {P:Program} {E:Env} (hE:EnvOk P E) {ρ:Rho} {H:Snap} {ts:List SVal} {h:Heap} {top:Top} {a:Act} {w:World} {o:Oper}
theorem qjD (size:Nat) : ∀ (vs:List Value) (i:Nat) (cells:Array Value),(∀ v ∈ vs,v.cells.size=size)->(i+vs.length)*size<=cells.size ->
  ∃ cells',Instr.fill (fun i=>some (i*size,size)) cells (vs.zipIdx i |>.map fun x=>(x.2,x.1))=some cells' /\
   cells'.toList=cells.toList.take (i*size)++vs.flatMap (fun v=>v.cells.toList)++cells.toList.drop ((i+vs.length)*size)
 | [],i,cells,_,_=>⟨cells,rfl,by simp⟩
 | v :: vs,i,cells,hs,hl=>by
   have hv:=hs v (List.mem_cons_self ..)
   have h1:i*size+size<=cells.size:=by
     have:(i+1)*size<=(i+(v :: vs).length)*size:=Nat.mul_le_mul_right _ (by simp)
     rw[Nat.add_mul,Nat.one_mul]at this
     omega
   have hfold:(v.cells.zipIdx.foldl (fun cs (x:Value × Nat)=>cs.setIfInBounds (i*size+x.2) x.1) cells).toList=cells.toList.take (i*size)++v.cells.toList++cells.toList.drop (i*size+size):=by
     rw[<- Array.foldl_toList,Array.toList_zipIdx]
     have:=qjB v.cells.toList 0 (i*size) cells (by simp;omega)
     simpa[hv]using this
   have hlen:(v.cells.zipIdx.foldl (fun cs (x:Value × Nat)=>cs.setIfInBounds (i*size+x.2) x.1) cells).size=cells.size:=by
     have:=congrArg List.length hfold
     simp only[Array.length_toList,List.length_append,List.length_take,List.length_drop,hv]at this
     omega
   obtain⟨cells',h2,h3⟩:=qjD size vs (i+1) (v.cells.zipIdx.foldl (fun cs (x:Value × Nat)=>cs.setIfInBounds (i*size+x.2) x.1) cells) (fun u hu=>hs u (List.mem_cons_of_mem _ hu))
     (by rw[hlen];simp only[List.length_cons]at hl;rw[show i+1+vs.length=i+(vs.length+1)by omega];exact hl)
   refine⟨cells',?_,?_⟩
   · simp only[List.zipIdx_cons,List.map_cons,Instr.fill,hv]
     rw[if_neg (by simp;omega)]
     exact h2
   · have e1:(i+1)*size=i*size+size:=by rw[Nat.add_mul,Nat.one_mul]
     have e2:(i+1+vs.length)*size=(i+(vs.length+1))*size:=by rw[show i+1+vs.length=i+(vs.length+1)by omega]
     rw[h3,hfold,e1]
     simp only[List.length_cons,List.flatMap_cons]
     have e3:(cells.toList.take (i*size)++v.cells.toList).length=i*size+size:=by simp[hv];omega
     have e4:(i+(vs.length+1))*size=i*size+size+vs.length*size:=by
       rw[Nat.add_mul,Nat.add_mul,Nat.one_mul];omega
     rw[List.take_left' e3,e2,e4,List.drop_append,e3,List.drop_eq_nil_of_le (by omega),List.nil_append,List.drop_drop]
     simp only[List.append_assoc]
     rw[Nat.add_sub_cancel_left]
theorem qjE : ∀ (l:List (Nat × Operand)) (i:Nat),qev i l=true->l=((l.map (·.2)).zipIdx i).map fun x=>(x.2,x.1)
 | [],i,_=>rfl
 | (j,x) :: l,i,h=>by
   simp only[qev,Bool.and_eq_true]at h
   have hj:=Nat.eq_of_beq_eq_true h.1
   subst hj
   simp only[List.map_cons,List.zipIdx_cons]
   rw[<- qjE l (j+1) h.2]
theorem qjF {α β:Type} (f:α->β) : ∀ (l:List α) (i:Nat),((l.zipIdx i).map fun x=>(x.2,x.1)).map (fun p=>(p.1,f p.2))=((l.map f).zipIdx i).map fun x=>(x.2,x.1)
 | [],i=>rfl
 | x :: l,i=>by simp[qjF f l (i+1)]
theorem qjG {k:IntKind} : ∀ (l:List SVal) {xs:List Int} {vs:List Value},qcy k l=some xs->RepV ρ H l vs->vs=xs.map (Value.int k)
 | [],xs,vs,h1,h2=>by simp only[qcy,Option.some.injEq]at h1;simp only[RepV]at h2;subst h1;subst h2;rfl
 | s :: l,xs,vs,h1,h2=>by
   obtain⟨v,ws,rfl,hd,hw⟩:=RepV_cons.1 h2
   cases s<;>simp only[qcy]at h1<;>try (cases h1;done)
   all_goals
     split at h1<;>try (cases h1;done)
     rename_i ys hk hy
     have hk:=keq_iff.1 hk
     subst hk
     cases h1
     simp only[Den,Rep,List.cons.injEq,and_true]at hd
     rw[hd,qjG l hy hw]
     rfl
include hE
theorem qjH {k:IntKind} : ∀ (l:List SVal) {xs:List Int} {vs:List Value},qcx E k l=some xs->RepC ρ H l vs->vs=xs.map (Value.int k)
 | [],xs,vs,h1,h2=>by simp only[qcx,Option.some.injEq]at h1;simp only[RepC]at h2;subst h1;subst h2;rfl
 | s :: l,xs,vs,h1,h2=>by
   obtain⟨us,ws,rfl,hd,hw⟩:=RepC_cons.1 h2
   cases s<;>simp only[qcx]at h1<;>try (cases h1;done)
   split at h1<;>try (cases h1;done)
   rename_i k' n zs _ _ ys hk hy
   have hk:=keq_iff.1 hk
   subst hk
   have ih:=qjH l hy hw
   simp only[Rep]at hd
   cases h1
   rw[hd.2,ih]
   cases l with
   | nil=>simp only[qcx,Option.some.injEq]at hy;subst hy;simp
   | cons=>simp only[hE.om,Om.real,List.map_append]
theorem qg6 {k:IntKind} {n:Nat} (hn:n ≠ 0) : ∀ (l:List SVal) {xs:List Int} {vs:List Value},qbt E k n l=some xs->RepV ρ H l vs->vs.flatMap (fun v=>v.cells.toList)=xs.map (Value.int k)/\xs.length=l.length*n /\ ∀ v ∈ vs,v.cells.size=n
 | [],xs,vs,h1,h2=>by simp only[qbt,Option.some.injEq]at h1;simp only[RepV]at h2;subst h1;subst h2;simp
 | s :: l,xs,vs,h1,h2=>by
   obtain⟨v,ws,rfl,hd,hw⟩:=RepV_cons.1 h2
   have fin : ∀ zs ys,v.cells.toList=zs.map (Value.int k)->zs.length=n->qbt E k n l=some ys->xs=(match l with|[]=>zs|_=>E.Ω.cat zs ys) ->
       (v :: ws).flatMap (fun v=>v.cells.toList)=xs.map (Value.int k)/\xs.length=(s :: l).length*n /\ ∀ u ∈ v :: ws,u.cells.size=n:=by
     intro zs ys hz hzn hy hx
     obtain⟨i1,i2,i3⟩:=qg6 hn l hy hw
     have hvs:v.cells.size=n:=by
       have:=congrArg List.length hz
       simpa[hzn]using this
     refine⟨?_,?_,?_⟩
     · rw[List.flatMap_cons,hz,i1,hx]
       cases l with
       | nil=>simp only[qbt,Option.some.injEq]at hy;subst hy;simp
       | cons=>simp only[hE.om,Om.real,List.map_append]
     · rw[hx]
       cases l with
       | nil=>simp[hzn]
       | cons=>simp only[hE.om,Om.real,List.length_append,hzn,i2,List.length_cons,Nat.add_mul,Nat.one_mul];omega
     · intro u hu
       rcases List.mem_cons.1 hu with rfl|hu
       · exact hvs
       · exact i3 u hu
   cases s<;>simp only[qbt]at h1<;>try (cases h1;done)
   · split at h1<;>try (cases h1;done)
     rename_i k' n' zs _ _ ys hk hy
     simp only[Bool.and_eq_true]at hk
     have hk1:=keq_iff.1 hk.1
     have hk2:=Nat.eq_of_beq_eq_true hk.2
     subst hk1;subst hk2
     simp only[Den]at hd
     cases h1
     exact fin zs ys (by rw[hd.2];simp[Value.cells]) hd.1 hy rfl
   · split at h1<;>try (cases h1;done)
     rename_i l' _ _ _ zs ys hk hz hy
     have hk:=Nat.eq_of_beq_eq_true hk
     simp only[Den]at hd
     obtain⟨us,hu,rfl⟩:=hd
     cases h1
     have:=qjH hE l' hz hu
     have hl:=RepC.len l' hu (by omega)
     refine fin zs ys (by simpa[Value.cells]using this) ?_ hy rfl
     have:=congrArg List.length this
     simp at this
     omega
omit hE in
theorem qjI : ∀ (l:List SVal) {vs:List Value},qew l=true->RepV ρ H l vs -> ∀ v ∈ vs,qaI v/\v.cells = #[v]
 | [],vs,_,h2=>by simp only[RepV]at h2;subst h2;intro v hv;cases hv
 | s :: l,vs,h1,h2=>by
   obtain⟨v,ws,rfl,hd,hw⟩:=RepV_cons.1 h2
   simp only[qew,Bool.and_eq_true]at h1
   intro u hu
   rcases List.mem_cons.1 hu with rfl|hu
   · have hr:Rep ρ H s [u]:=by
       have h1:=h1.1
       cases s<;>simp only[SVal.isOne,Bool.false_eq_true]at h1<;>exact hd
     obtain⟨x,e,_,ho⟩:=Rep.one hr h1.1
     cases e
     refine⟨ho,?_⟩
     cases u<;>first|rfl|exact ho.elim
   · exact qjI l h1.2 hw u hu
omit hE in
theorem qjJ {n:Nat} (hn:n ≠ 0) : ∀ (l:List SVal) {vs:List Value},qex n l=true->RepV ρ H l vs->RepC ρ H l (vs.flatMap fun v=>v.cells.toList)/\(∀ v ∈ vs,v.cells.size=n)/\(vs.flatMap fun v=>v.cells.toList).length=l.length*n
 | [],vs,_,hr=>by
   simp only[RepV]at hr
   subst hr
   exact⟨rfl,(fun v hv=>by cases hv),by simp⟩
 | s :: l,vs,ha,hr=>by
   obtain⟨v,ws,rfl,h1,h2⟩:=RepV_cons.1 hr
   simp only[qex]at ha
   split at ha<;>try (cases ha;done)
   rename_i hc
   simp only[Bool.and_eq_true]at hc
   obtain⟨c1,c2,c3'⟩:=hc
   have c3:=Nat.eq_of_beq_eq_true c3'
   clear c3'
   obtain⟨i1,i2,i3⟩:=qjJ hn l ha h2
   have hrep:=h1.cells c2 (by rw[c1,Bool.or_true])
   have hul:v.cells.toList.length=n:=by
     rw[<- c3]
     cases s<;>simp only[SVal.isAgg,Bool.false_eq_true]at c1<;>simp only[vsz]at c3 ⊢
     case row=>simp only[Rep]at hrep;rw[hrep.2];simpa using hrep.1
     case agg l=>simp only[Rep]at hrep;exact RepC.len l hrep (by omega)
     case ab p=>exact Rep.len _ hrep (by simp only[SVal.sz];have:=p.pos;omega)
   refine⟨RepC_cons.2 ⟨_,_,by rw[List.flatMap_cons],hrep,i1⟩,fun u hu => ?_,?_⟩
   · rcases List.mem_cons.1 hu with rfl|hu
     · simpa using hul
     · exact i2 u hu
   · rw[List.flatMap_cons,List.length_append,hul,i3,List.length_cons,Nat.add_mul,Nat.one_mul,Nat.add_comm]
theorem qoq (R:Rel E ρ H ts h top a w) {t:TypeId} {len:Nat} {parts:Array (Nat × Operand)} (hop:o.op = .buildSlice t len parts):qM P E ρ H h top a w o (qd E ts h o.op):=by
 rw[hop]
 simp only[qd]
 split<;>try trivial
 rename_i ti ht
 obtain⟨d,hu,hm⟩:=(hE.ty t ti ht).under
 split<;>try trivial
 rename_i e hd
 simp only[hd,TDm]at hm
 subst hm
 split<;>try trivial
 rename_i te hte
 have hty:=hE.ty e te hte
 obtain⟨z,hz,hs,hzd⟩:=hty.run_zero w
 split<;>try trivial
 rename_i hc
 simp only[Bool.and_eq_true]at hc
 obtain⟨c1,c2,c3⟩:=hc
 have c1:=Nat.eq_of_beq_eq_true c1
 have c3:=Nat.le_of_ble_eq_true c3
 have hmap:=qb9 hE R (parts.toList.map (·.2))
 have hm1:parts.toList.map (fun p=>evl E ts p.2)=(parts.toList.map (·.2)).map (evl E ts):=by simp
 rw[hm1]
 generalize hvs:(parts.toList.map (·.2)).map a.eval=vs at hmap
 have hlen:vs.length=len:=by rw[<- hvs];simp[c1]
 have hparts:(parts.toList.map fun p=>(p.1,a.eval p.2))=(vs.zipIdx 0).map fun x=>(x.2,x.1):=by
  have:=qjE parts.toList 0 c2
  rw[<- hvs,<- qjF,<- this]
 have run:(∀ v ∈ vs,v.cells.size=te.size) -> ∃ cells',cells'.toList=vs.flatMap (fun v=>v.cells.toList)/\(execOp a.eval o).run P w = .ok (.value (.slice (some ⟨w.heap.size,0,none⟩) len len)) (w.alloc (.cells cells' e)):=by
  intro hsz
  have hfill:=fun(cells:Array Value) (hcs:cells.size=len*te.size)=>qjD te.size vs 0 cells hsz (by rw[hcs,Nat.zero_add,hlen];exact Nat.le_refl _)
  have hle : ¬ len*te.size > 2^24:=by
   have:(2:Nat)^24=16777216:=by decide
   omega
  have out : ∀ (cells0 cells':Array Value),cells0.size=len*te.size->cells'.toList=cells0.toList.take (0*te.size)++vs.flatMap (fun v=>v.cells.toList)++cells0.toList.drop ((0+vs.length)*te.size) ->
    cells'.toList=vs.flatMap (fun v=>v.cells.toList):=by
   intro cells0 cells' h0 h2
   rw[h2,Nat.zero_mul,Nat.zero_add,hlen]
   rw[List.take_zero,List.nil_append,List.drop_eq_nil_of_le (by simp[h0]),List.append_nil]
  by_cases h0:len*te.size=0
  ·obtain⟨cells',h1,h2⟩:=hfill ((Array.range (len*te.size)).map ((#[]:Array Value)[· % (#[]:Array Value).size]!)) (by simp)
   refine⟨cells',out _ cells' (by simp) h2,?_⟩
   simp only[execOp,hop,Instr.buildSlice,Sem.run_bind,qA hu,Result.andThen_ok,hty.run_sizeOf]
   rw[if_neg hle]
   simp only[Sem.run_bind,if_pos h0,Sem.run_pure,Result.andThen_ok,qeG,hparts,h1]
   simp[newRow]
  ·obtain⟨cells',h1,h2⟩:=hfill ((Array.range (len*te.size)).map (z.cells[· % z.cells.size]!)) (by simp)
   refine⟨cells',out _ cells' (by simp) h2,?_⟩
   simp only[execOp,hop,Instr.buildSlice,Sem.run_bind,qA hu,Result.andThen_ok,hty.run_sizeOf]
   rw[if_neg hle]
   simp only[Sem.run_bind,if_neg h0,hz,Sem.run_pure,Result.andThen_ok,qeG,hparts,h1]
   simp[newRow]
 have fin : ∀ (c:SVal) (es:Nat) (vs':List Value),(∀ v ∈ vs,v.cells.size=te.size)->vs'=vs.flatMap (fun v=>v.cells.toList)->Rep ρ H c vs'->IdsLt top c->len*es=vs'.length ->
   qdo P ρ H top a w o c fun id =>.sl id es (.l 0) (.l len) (.l len):=by
  intro c es vs' hsz hvs' hr hi hes
  obtain⟨cells',r1,r2⟩:=run hsz
  refine⟨_,cells',e,vs',r2,hr,hi,by rw[r1,hvs'],fun ρ' id he=>⟨?_,rfl⟩⟩
  simp only[Den,Rep,List.cons.injEq,and_true,he,SN.v]
  refine⟨_,rfl,Nat.le_refl _,by omega,by (intro hg;cases hg),fun _=>⟨_,rfl,fun _=>rfl⟩⟩
 have hids:=hmap.2
 have hrep:=hmap.1
 split
 ·rename_i k n0 hzero
  split<;>try trivial
  rename_i xs hsz hx
  have hsz:=Nat.eq_of_beq_eq_true hsz
  have hv:=qjG _ hx hrep
  have hone : ∀ v ∈ vs,v.cells.size=te.size:=by
   rw[hv,hsz];intro v hv';obtain⟨x,_,rfl⟩:=List.mem_map.1 hv';rfl
  have hfm : ∀ (xs:List Int),(xs.map (Value.int k)).flatMap (fun v=>v.cells.toList)=xs.map (Value.int k):=by
   intro xs;induction xs with
   | nil=>rfl
   | cons x xs ih=>simp only[List.map_cons,List.flatMap_cons,ih];rfl
  have hxl:xs.length=len:=by rw[<- hlen,hv];simp
  exact fin _ 1 (xs.map (Value.int k)) hone (by rw[hv,hfm]) (by simp only[Rep];exact⟨hxl,trivial⟩) trivial (by simp[hxl])
 ·rename_i k n z0 hzero
  split<;>try trivial
  rename_i xs hsz hx
  have hsz:=Nat.eq_of_beq_eq_true hsz
  have hn:n ≠ 0:=by have:=hty.pos;omega
  obtain⟨i1,i2,i3⟩:=qg6 hE hn _ hx hrep
  have hxl:xs.length=len*n:=by rw[i2];simp[c1]
  exact fin _ n (xs.map (Value.int k)) (by rw[hsz];exact i3) i1.symm (by simp only[Rep];exact⟨hxl,trivial⟩) trivial (by simp[hxl])
 ·rename_i z0 hzero
  have hn:te.size ≠ 0:=by have:=hty.pos;omega
  split
  ·rename_i xs hx
   obtain⟨i1,i2,i3⟩:=qg6 hE hn _ hx hrep
   have hxl:xs.length=len*te.size:=by rw[i2];simp[c1]
   exact fin _ te.size (xs.map (Value.int (qgW z0))) i3 i1.symm (by simp only[Rep];exact⟨hxl,trivial⟩) trivial (by simp[hxl])
  ·split<;>try trivial
   rename_i hag
   obtain⟨i1,i2,i3⟩:=qjJ hn _ hag hrep
   exact fin _ te.size _ i2 rfl (by simp only[Rep];exact i1) hids (by rw[i3];simp[c1])
 ·split<;>try trivial
  rename_i hc
  simp only[Bool.and_eq_true]at hc
  have hsz:=Nat.eq_of_beq_eq_true hc.1
  have h1:=qjI _ hc.2 hrep
  have hfm : ∀ (vs:List Value),(∀ v ∈ vs,qaI v/\v.cells = #[v])->vs.flatMap (fun v=>v.cells.toList)=vs:=by
   intro vs;induction vs with
   | nil=>intro _;rfl
   | cons x xs ih =>
     intro hq
     rw[List.flatMap_cons,ih fun v hv=>hq v (List.mem_cons_of_mem _ hv),(hq x (List.mem_cons_self ..)).2]
     rfl
  exact fin _ 1 vs (by rw[hsz];intro v hv;rw[(h1 v hv).2];rfl) (hfm vs h1).symm (by simp only[Rep];exact⟨hrep,fun v hv=>(h1 v hv).1⟩) hids (by simp[hlen])
end
end Go.Sx
end
section
namespace Go.Sx
section
variable {P:Program} {E:Env} (hE:EnvOk P E) {ρ:Rho} {H:Snap} {ts:List SVal} {h:Heap} {top:Top} {a:Act} {w:World} {o:Oper}
def ReadsW (w:World) (k:IntKind) (xs:List Int) (v:Value):Prop :=
 ∃ a c,v = .slice a xs.length c/\xs.length<=c /\ ∀ (j:Nat) x,xs[j]?=some x -> ∃ b o,a=some ⟨b,o,none⟩ /\ ∃ cs te fr,w.heap[b]?=some (.cells cs te fr)/\cs[o+j]?=some (.int k x)
theorem qg7 {w:World} (hA:Agree H w) {b o:Nat} {v:Value} (hv:qu H b o=some v) : ∃ cs te fr,w.heap[b]?=some (.cells cs te fr)/\cs[o]?=some v:=by
 unfold qu at hv
 split at hv<;>try (cases hv;done)
 rename_i cs te fr hb
 exact⟨cs,te,fr,hA b _ hb,hv⟩
theorem RoI.reads {w:World} (hA:Agree H w) {k:IntKind} {xs:List Int} {v:Value} (hv:RoI H k xs v):ReadsW w k xs v:=by
 obtain⟨aa,c,e,hle,hro⟩:=hv
 refine⟨aa,c,e,hle,fun j x hj => ?_⟩
 obtain⟨b,o,ha,hc⟩:=hro j x hj
 obtain⟨cs,te,fr,h1,h2⟩:=qg7 hA hc
 exact⟨b,o,ha,cs,te,fr,h1,h2⟩
include hE
theorem qg8 (R:Rel E ρ H ts h top a w) {s:SVal} {k:IntKind} {xs:List Int} {v:Value} (hb:qj E h s = .roi k xs) (hp:bPre h s)
  (hd:Den ρ H s v):ReadsW w k xs v:=by
 have own : ∀ id off len cap (ys:List Int),s = .sl id 1 off len cap->(look h id = .seq k ys\/look h id = .lck k ys \/ ∃ n,look h id = .row k n ys)->xs=(ys.drop off.v).take len.v->ReadsW w k xs v:=by
  rintro id off len cap ys rfl hl hx
  have hjj:look h id ≠ .junk:=by rcases hl with hl|hl|⟨n,hl⟩<;>rw[hl]<;>simp
  have hxl:xs.length=len.v:=by
   have hin:off.v+len.v<=ys.length:=by
    rcases hl with hl|hl|⟨n,hl⟩
    ·simp only[bPre,hl]at hp;exact hp
    ·simp only[bPre,hl]at hp;exact hp
    ·simp only[bPre,hl]at hp
     rcases R.lies hjj with hg|⟨arr,te,vs,li⟩
     ·obtain⟨_,_,k2,hk⟩:=hg
      rw[hl]at hk;cases k2<;>cases hk
     ·have:=li.rep
      rw[hl]at this
      simp only[Rep]at this
      omega
   rw[hx];simp;omega
  simp only[Den,Rep,List.cons.injEq,and_true]at hd
  obtain⟨ad,rfl,hle,hroom,hgh,hre⟩:=hd
  have hj:look h id ≠ .junk:=by rcases hl with hl|hl|⟨n,hl⟩<;>rw[hl]<;>simp
  refine⟨ad,cap.v,by rw[hxl],by rw[hxl];exact hle,fun j x hxj => ?_⟩
  have hjl:j<len.v:=by
   have:=(List.getElem?_eq_some_iff.1 hxj).1
   omega
  rcases R.lies hj with hg|⟨arr,te,vs,li⟩
  ·have:=(hgh hg.1).2;omega
  ·obtain⟨o',rfl,ho'⟩:=hre li.real
   have hvs:vs=ys.map (Value.int k):=by
    have:=li.rep
    rcases hl with hl|hl|⟨n,hl⟩<;>rw[hl]at this<;>simp only[Rep]at this
    ·exact this
    ·exact this
    ·exact this.2
   have hy:ys[off.v+j]?=some x:=by
    rw[hx,List.getElem?_take,if_pos hjl,List.getElem?_drop]at hxj
    exact hxj
   refine⟨_,_,rfl,arr,te.1,_,li.blk,?_⟩
   rw[ho' (by omega),Nat.add_assoc]
   exact li.cells _ _ (by rw[hvs,List.getElem?_map,hy];rfl)
 have eS:E.Ω.sub=fun xs o n=>(xs.drop o).take n:=by rw[hE.om];rfl
 unfold qj at hb
 split at hb
 ·rename_i id off len cap
  split at hb<;>try (cases hb;done)
  ·rename_i k' ys hl
   cases hb
   exact own id off len cap ys rfl (.inl hl) (by rw[eS])
  ·rename_i k' ys hl
   cases hb
   exact own id off len cap ys rfl (.inr (.inl hl)) (by rw[eS])
  ·rename_i k' n ys hl
   have hjy : ∀ n',n'=n->ys.length=n':=by
    rintro _ rfl
    have hj:look h id ≠ .junk:=by rw[hl];simp
    rcases R.lies hj with hg|⟨arr,te,vs,li⟩
    ·obtain⟨_,_,k2,hk⟩:=hg
     rw[hl]at hk;cases k2<;>cases hk
    ·have:=li.rep
     rw[hl]at this
     simp only[Rep]at this
     exact this.1
   split at hb
   ·rename_i m
    split at hb
    ·rename_i hm
     have hm:=Nat.eq_of_beq_eq_true hm
     cases hb
     have:=hjy _ rfl
     exact own id (.l 0) (.l m) cap xs rfl (.inr (.inr ⟨n,hl⟩)) (by simp only[SN.v,List.drop_zero];rw[List.take_of_length_le (by omega)])
    ·cases hb
     exact own id (.l 0) (.l m) cap ys rfl (.inr (.inr ⟨n,hl⟩)) (by rw[eS];rfl)
   ·cases hb
    exact own id off len cap ys rfl (.inr (.inr ⟨n,hl⟩)) (by rw[eS])
 ·cases hb
  simp only[Den,Rep,List.cons.injEq,and_true]at hd
  exact⟨none,0,by rw[hd.1];rfl,Nat.le_refl _,fun j x hj=>by simp at hj⟩
 ·cases hb
 ·cases hb
 ·split at hb<;>cases hb
 ·subst hb
  simp only[Den,Rep,List.cons.injEq,and_true]at hd
  obtain⟨v',e,hv⟩:=hd
  subst e
  exact hv.reads R.agree
theorem qor (R:Rel E ρ H ts h top a w) {s t:TypeId} {x:Operand} (hop:o.op = .convert s t x):qM P E ρ H h top a w o (qd E ts h o.op):=by
 have hx:=R.den1 x
 rw[hop]
 simp only[qd]
 split
 ·rename_i ti ht hsome
  obtain⟨si,hsi⟩:=Option.isSome_iff_exists.1 hsome
  obtain⟨ds,hs,_⟩:=(hE.ty s si hsi).under
  obtain⟨d,hu,hm⟩:=(hE.ty t ti ht).under
  split
  ·rename_i k k' n hd h1
   rw[h1]at hx
   simp only[Den,Rep,List.cons.injEq,and_true]at hx
   simp only[hd,TDm]at hm
   subst hm
   refine setL ?_
   simp[execOp,hop,hx,convert,qA hs,qA hu,Conv.intToInt]
  ·rename_i k k' n hd h1
   rw[h1]at hx
   simp only[Den,Rep,List.cons.injEq,and_true]at hx
   simp only[hd,TDm]at hm
   subst hm
   refine setI ?_
   simp[execOp,hop,hx,convert,qA hs,qA hu,Conv.intToInt,hE.om,Om.real]
  ·rename_i e bs hd h1
   rw[h1]at hx
   simp only[Den,Rep,List.cons.injEq,and_true]at hx
   simp only[hd,TDm]at hm
   subst hm
   split<;>try trivial
   rename_i te ts' hte hts
   split<;>try trivial
   rename_i hd1 hd2
   obtain⟨de,hue,hme⟩:=(hE.ty e te hte).under
   obtain⟨ds2,hs2,hms⟩:=(hE.ty s ts' hts).under
   simp only[hd1,TDm]at hme
   simp only[hd2,TDm]at hms
   subst hme hms
   have hlen:(strB bs).length=bs.size:=by
    show(bs.data.toList.map _).length=bs.data.size
    rw[List.length_map];exact Array.length_toList
   have hge:=grownCap_ge w bs.size 0 e
   have hrun:=run_bytes_of_string (P:=P) w s t e bs hs2 hu hue
   have hlen2:(SN.s (E.Ω.len (strB bs))).v=bs.size:=by rw[hE.om];exact hlen
   intro _
   refine⟨bytesRow bs (grownCap w bs.size 0 e),e,((bytesRow bs (grownCap w bs.size 0 e)).size,(bytesRow bs (grownCap w bs.size 0 e)).size+1),grownCap w bs.size 0 e,(strB bs).map (Value.int .u8),by rw[List.length_map,hlen,hlen2],by rw[hlen2];exact hge,?_,?_,fun ρ'=>by simp only[Rep],fun j x hj => ?_,nofun,trivial⟩
   ·simp only[execOp,hop,hx.1,hrun,hlen2,Sem.run_bind,Result.andThen_ok,Sem.run_pure]
   ·simp only[bytesRow,Array.size_append,Array.size_map,Array.size_replicate]
    have:bs.data.size=bs.size:=rfl
    omega
   ·unfold bytesRow
    have hj':=hj
    unfold strB at hj'
    rw[List.map_map,List.getElem?_map,Option.map_eq_some_iff]at hj'
    obtain⟨b,hb,rfl⟩:=hj'
    have hlt:=(List.getElem?_eq_some_iff.1 hb).1
    rw[Array.length_toList]at hlt
    rw[Array.getElem?_append_left (by rw[Array.size_map];exact hlt),Array.getElem?_map,<- Array.getElem?_toList,hb]
    rfl
  ·rename_i e id es off len cap hd h1
   split<;>try trivial
   rename_i te k n xs hst hte hlk
   split<;>try trivial
   rename_i hd1
   have hst:=Nat.eq_of_beq_eq_true hst
   intro _
   simp only[hd,TDm]at hm
   subst hm
   obtain⟨de,hue,hme⟩:=(hE.ty e te hte).under
   simp only[hd1,TDm]at hme
   subst hme
   have hx0:=hx
   have ix:=R.ids1 x
   rw[h1]at hx hx0 ix
   simp only[Den,Rep,List.cons.injEq,and_true]at hx
   obtain⟨ad,hv,hle,hroom,hgh,hre⟩:=hx
   have hj:look h id ≠ .junk:=by rw[hlk];simp
   rcases R.lies hj with hg|⟨arr,tt,vs,li⟩
   ·obtain⟨_,_,k2,hk⟩:=hg
    rw[hlk]at hk;cases k2<;>cases hk
   obtain⟨o',rfl,ho'⟩:=hre li.real
   have hfz:=li.fz (by rw[hlk];rfl)
   have hblk:=li.blk0 (by rw[hlk];rfl)
   have hsh:w.shape? (ρ id).b=some (tt.1,arr.size):=by
    unfold World.shape?
    rw[hblk]
   refine⟨.slice (some ⟨(ρ id).b,o',none⟩) len.v cap.v,w.freeze ⟨(ρ id).b,arr.size,none⟩ 1,?_,by rw[<- hv];exact hx0,ix,⟨_,q9 rfl hj⟩,trivial,⟨rfl,rfl,rfl,by simp[World.freeze]⟩,by simp[World.freeze],fun b hb => ?_,arr,(tt.1,(arr.size,arr.size+1)),vs,⟨li.real,?_,li.own,?_,li.room,li.fits,li.cells,nofun⟩⟩
   ·have hrun:(convert s t (.slice (some ⟨(ρ id).b,o',none⟩) len.v cap.v)).run P w = .ok (.slice (some ⟨(ρ id).b,o',none⟩) len.v cap.v) (w.freeze ⟨(ρ id).b,arr.size,none⟩ 1):=by
     subst hst
     simp[convert,qA hu,qA hue,markStringish,hsh]
    simp only[execOp,hop,hv,hrun,Sem.run_bind,Result.andThen_ok,Sem.run_pure]
   ·simp[World.freeze,Array.getElem?_modify,Ne.symm hb]
   ·simp[World.freeze,Array.getElem?_modify,hblk]
   ·have:=li.rep
    rw[hlk]at this
    simp only[Rep]at this ⊢
    exact this.2
  ·rename_i hd
   split<;>try trivial
   rename_i ts' xs hts hik
   split<;>try trivial
   rename_i e hds'
   split<;>try trivial
   rename_i te hte
   split<;>try trivial
   rename_i hd1
   intro hp
   simp only[hd,TDm]at hm
   subst hm
   obtain⟨ds2,hs2,hms⟩:=(hE.ty s ts' hts).under
   simp only[hds',TDm]at hms
   subst hms
   obtain⟨de,hue,hme⟩:=(hE.ty e te hte).under
   simp only[hd1,TDm]at hme
   subst hme
   have hb:qj E h (evl E ts x) = .roi .u8 xs:=by
    unfold qaT at hik
    split at hik<;>cases hik
    assumption
   obtain⟨aa,c,hv,hle,hr⟩:=qg8 hE R hb hp hx
   have hrun:(convert s t (.slice aa xs.length c)).run P w = .ok (.string (strOfNums xs)) w:=by
    cases aa with
    | none =>
      have:xs=[]:=by
        cases xs with
        | nil=>rfl
        | cons z zs=>obtain⟨_,_,h9,_⟩:=hr 0 z rfl;cases h9
      subst this
      rw[run_convert_bytes_nil w s e hs2 hue _ _ t hu]
      rfl
    | some ad =>
      by_cases hn:xs=[]
      · subst hn
        obtain⟨b,o',sp⟩:=ad
        rw[run_convert_bytes_string w s t e _ _ _ hs2 hue hu,run_bytesToString w _ _ _ [] (by have:=run_loadCells_list (P:=P) w ⟨b,o',sp⟩ [] (fun j v hj=>by simp at hj);simpa using this)]
        rfl
      · obtain⟨z,hz⟩ : ∃ z,xs[0]?=some z:=by
          cases xs with
          | nil=>exact absurd rfl hn
          | cons z zs=>exact⟨z,rfl⟩
        obtain⟨b,o',ha,_⟩:=hr 0 z hz
        cases ha
        refine run_convert_bytes_arg w s e hs2 hue b o' xs.length c xs rfl (fun i hi => ?_) t hu
        obtain⟨b2,o2,ha,cs,te',fr,h2,h3⟩:=hr i _ (List.getElem?_eq_getElem hi)
        cases ha
        simp[World.cell?,h2,h3,List.getD,List.getElem?_eq_getElem hi]
   refine⟨.string (strOfNums xs),?_,?_,trivial⟩
   ·simp only[execOp,hop,hv,hrun,Sem.run_bind,Result.andThen_ok,Sem.run_pure]
   ·simp only[Den,Rep,List.cons.injEq,and_true]
    rw[hE.om]
    exact⟨rfl,trivial⟩
  ·trivial
 ·trivial
omit hE in
theorem ReadsW.first {k:IntKind} {xs:List Int} {v:Value} (hr:ReadsW w k xs v) {n:Nat} (hn:n<=xs.length):(Builtin.firstCells 1 n v).run P w = .ok ((xs.take n).map (Value.int k)).toArray w:=by
 obtain⟨aa,c,rfl,hle,hro⟩:=hr
 cases aa with
 | none =>
   have:xs=[]:=by
     cases xs with
     | nil=>rfl
     | cons x xs=>obtain⟨b,o,hc,_⟩:=hro 0 x rfl;cases hc
   subst this
   simp[Builtin.firstCells]
 | some ad =>
   simp only[Builtin.firstCells,Nat.mul_one]
   have:=run_loadCells_list (P:=P) (w:=w) ad ((xs.take n).map (Value.int k)) (fun j v hj=>by
     rw[List.getElem?_map,Option.map_eq_some_iff]at hj
     obtain⟨x,hx,rfl⟩:=hj
     have hx':xs[j]?=some x:=by
       rw[List.getElem?_take]at hx
       split at hx
       · exact hx
       · cases hx
     obtain⟨b,o,hc,cs,te,fr,h1,h2⟩:=hro j x hx'
     cases hc
     rw[qbi]
     simp[World.cell?,h1,h2])
   simpa[Nat.min_eq_left hn]using this
theorem qjK (R:Rel E ρ H ts h top a w) {c:Call} (hop:o.op = .call c) (hc:c.callee = .builtin .copy) {x y:Operand} (hx:c.args = #[x,y]) {t:TypeId} (ht:c.argTypes[0]?=some t)
  {ti te:TI} {e:TypeId} (hti:E.T t=some ti) (htd:ti.d = .slice e) (hte:E.T e=some te) (hsz:te.size=1) {id:Nat} {off len cap:SN} (hsx:evl E ts x = .sl id 1 off len cap)
  {k:IntKind} {ys:List Int} (hys:qaT E h (evl E ts y)=some (k,ys)) (hyl:bPre h (evl E ts y)) (hl0:0<len.v) {c':SVal} {xs:List Int}
  (hl:(look h id = .seq k xs/\c' = .seq k (E.Ω.put xs off.v (E.Ω.sub ys 0 len.v))) \/ ∃ n,look h id = .row k n xs/\c' = .row k n (E.Ω.put xs off.v (E.Ω.sub ys 0 len.v)))
  (hin:off.v+len.v<=xs.length) :
  qjs P ρ H h top a w o (.int .i64 (E.Ω.ofN (Nat.min ys.length len.v))) id c':=by
 have hdx:=R.den1 x
 have hdy:=R.den1 y
 have ix:=R.ids1 x
 rw[hsx]at hdx ix
 simp only[Den,Rep,List.cons.injEq,and_true]at hdx
 obtain⟨ad,hv,hle,hroom,hgh,hre⟩:=hdx
 unfold qaT at hys
 split at hys<;>try (cases hys;done)
 rename_i k' zs hb
 cases hys
 have hrd:=qg8 hE R hb hyl hdy
 obtain⟨d,hu,hm⟩:=(hE.ty t ti hti).under
 simp only[htd,TDm]at hm
 subst hm
 have hty:=hE.ty e te hte
 have hj:look h id ≠ .junk:=by rcases hl with⟨hl,_⟩|⟨n,hl,_⟩<;>rw[hl]<;>simp
 have hrd':=hrd
 obtain⟨aa,cc,hvy,hcc,hro⟩:=hrd'
 have hlo:(Builtin.lenOf (a.eval y)).run P w = .ok ys.length w:=by rw[hvy];rfl
 have hfc:=hrd.first (P:=P) (n:=Nat.min ys.length len.v) (Nat.min_le_left ..)
 have hsub:E.Ω.sub ys 0 len.v=ys.take (Nat.min ys.length len.v):=by
  rw[hE.om];simp only[Om.real,List.drop_zero]
  rw[List.take_eq_take_iff]
  simp[Nat.min_comm]
 have hsl:(ys.take (Nat.min ys.length len.v)).length=Nat.min ys.length len.v:=by simp
 have hmin:Nat.min ys.length len.v<=len.v:=Nat.min_le_right ..
 have run0 : ∀ w',(match ad with|some ad=>storeCells ad ((ys.take (Nat.min ys.length len.v)).map (Value.int k))|none=>pure ():Sem Unit).run P w = .ok () w' ->
   (execOp a.eval o).run P w = .ok (.value (goInt (Nat.min ys.length len.v))) w':=by
  intro w' hw'
  simp only[execOp,hop,Sem.run_bind,resolve,hc,hx,Sem.run_pure,Result.andThen_ok,invoke,builtin,Builtin.copy_,ht,List.map_toArray,List.map_cons,List.map_nil,List.getElem?_toArray,List.getElem?_cons_zero,List.getElem?_cons_succ,
   qA hu,hv,hlo,hty.run_sizeOf,hsz,hfc]
  cases ad with
  | none=>simp only at hw' ⊢;cases hw';rfl
  | some ad=>simp only[Sem.run_bind]at hw' ⊢;rw[hw'];rfl
 have ev:E.Ω.ofN (Nat.min ys.length len.v)=((Nat.min ys.length len.v:Nat):Int):=by rw[hE.om];rfl
 rcases R.lies hj with hg|⟨arr,tt,vs,li⟩
 ·obtain⟨g1,g2,k2,hk⟩:=hg
  have hc0:=(hgh g1)
  obtain⟨rfl,hc0⟩:=hc0
  exfalso
  omega
 ·obtain⟨o',rfl,ho'⟩:=hre li.real
  have hvs:vs=xs.map (Value.int k):=by
   have:=li.rep
   rcases hl with⟨hl,_⟩|⟨n,hl,_⟩<;>rw[hl]at this<;>simp only[Rep]at this
   ·exact this
   ·exact this.2
  have hfits:=li.fits
  have hlk:qah (look h id)=false:=by rcases hl with⟨hl,_⟩|⟨n,hl,_⟩<;>rw[hl]<;>rfl
  have hroom2:=li.room
  have hxl:vs.length=xs.length:=by rw[hvs];simp
  by_cases hn0:Nat.min ys.length len.v=0
  ·refine⟨_,w,run0 w ?_,by simp only[Den,Rep];rw[ev];rfl,trivial,⟨_,q9 rfl hj⟩,?_,Same.refl w,rfl,fun _ _=>rfl,arr,tt,vs,?_⟩
   ·simp[hn0,storeCells]
   ·rcases hl with⟨_,rfl⟩|⟨n,_,rfl⟩<;>trivial
   ·have e0:E.Ω.put xs off.v (E.Ω.sub ys 0 len.v)=xs:=by
     rw[hsub,hn0,hE.om];simp[Om.real]
    rcases hl with⟨hl,rfl⟩|⟨n,hl,rfl⟩
    ·rw[e0,<- hl];exact li
    ·rw[e0,<- hl];exact li
  ·have hof:=ho' (by omega)
   subst hof
   obtain⟨w',arr',h1,h2,h3,h4,h5,h6,h7⟩:=qeD (P:=P) (o:=(ρ id).o+off.v) ((ys.take (Nat.min ys.length len.v)).map (Value.int k)) 0 w arr (li.blk0 hlk)
    (by intro u hu;obtain⟨z,_,rfl⟩:=List.mem_map.1 hu;trivial) (by rw[List.length_map,hsl];omega)
   refine⟨_,w',run0 w' h1,by simp only[Den,Rep];rw[ev];rfl,trivial,⟨_,q9 rfl hj⟩,?_,h6,h7,h5,arr',(tt.1,(0,0)),(E.Ω.put xs off.v (E.Ω.sub ys 0 len.v)).map (Value.int k),?_⟩
   ·rcases hl with⟨_,rfl⟩|⟨n,_,rfl⟩<;>trivial
   ·have hpl:(E.Ω.put xs off.v (E.Ω.sub ys 0 len.v)).length=xs.length:=qgZ hE.om _ _ _ (by rw[hsub,hsl];omega)
    refine⟨li.real,h2,li.own,?_,by omega,by rw[List.length_map,hpl];omega,?_,fun _=>rfl⟩
    ·rcases hl with⟨hl,rfl⟩|⟨n,hl,rfl⟩
     ·simp only[Rep]
     ·simp only[Rep]
      have:=li.rep
      rw[hl]at this
      simp only[Rep]at this
      exact⟨by rw[hpl];exact this.1,trivial⟩
    ·intro j v hjv
     rw[qdk hE.om,hsub,<- hvs]at hjv
     have hjv2:(vs.take off.v++(ys.take (Nat.min ys.length len.v)).map (Value.int k)++vs.drop (off.v+((ys.take (Nat.min ys.length len.v)).map (Value.int k)).length))[j]?=some v:=by
      rw[List.length_map];exact hjv
     have hg:=qjv (by rw[List.length_map,hsl];omega) hjv2
     rw[h4]
     split at hg
     ·rename_i g
      rw[if_pos (by omega),show(ρ id).o+j-((ρ id).o+off.v+0)=j-off.v by omega]
      exact hg
     ·rename_i g
      rw[if_neg (by omega)]
      exact li.cells j v hg
theorem qos (hC : ∀ g,(E.G g).isSome\/E.into g->qX P g) (R:Rel E ρ H ts h top a w) {c:Call} {f:Operand} (hop:o.op = .call c) (hc:c.callee = .value f):qM P E ρ H h top a w o (qd E ts h o.op):=by
 have hf:=R.den1 f
 have jf:=R.ids1 f
 rw[hop]
 simp only[qd,hc]
 split<;>try trivial
 rotate_left
 ·rename_i id hfn
  rw[hfn]at hf jf
  simp only[Den,Rep,List.cons.injEq,and_true]at hf
  have hm:=qb9 hE R c.args.toList
  refine⟨_,hm.1,hm.2,by simp,jf,fun rec hrec hsz => ?_⟩
  have ea:(c.args.toList.map a.eval).toArray=Array.map a.eval c.args:=by
   apply Array.ext'
   simp
  have hy:=run_yield (P:=P) (args:=(c.args.toList.map a.eval).toArray) hrec (by simpa using hsz)
  simp only[execOp,hop,Sem.run_bind,resolve,hc,hf,Deferred.ofValue,Sem.run_pure,Result.andThen_ok,invoke]
  rw[ea]at hy ⊢
  simpa using hy
 rename_i g first caps hfn
 rw[hfn]at hf jf
 simp only[Den,Rep,List.cons.injEq,and_true]at hf
 obtain⟨fs,cs,hv,h1,h2⟩:=hf
 have hm:=qb9 hE R c.args.toList
 have app : ∀ (l1 l2:List SVal) (v1 v2:List Value),RepV ρ H l1 v1->RepV ρ H l2 v2->RepV ρ H (l1++l2) (v1++v2):=by
  intro l1
  induction l1 with
  | nil=>intro l2 v1 v2 g1 g2;simp only[RepV]at g1;subst g1;exact g2
  | cons s l ih =>
    intro l2 v1 v2 g1 g2
    obtain⟨v,ws,rfl,g3,g4⟩:=RepV_cons.1 g1
    exact RepV_cons.2 ⟨v,ws++v2,rfl,g3,ih l2 ws v2 g4 g2⟩
 have appI : ∀ (l1 l2:List SVal),IdsLtL top l1->IdsLtL top l2->IdsLtL top (l1++l2):=by
  intro l1
  induction l1 with
  | nil=>intro l2 _ g2;exact g2
  | cons s l ih=>intro l2 g1 g2;exact⟨g1.1,ih l2 g1.2 g2⟩
 have hrep:=app _ _ _ _ h1 (app _ _ _ _ hm.1 h2)
 have hids:=appI _ _ jf.1 (appI _ _ hm.2 jf.2)
 have run:(E.G g).isSome\/E.into g->(execOp a.eval o).run P w = .ok (.enter g (fs++(c.args.toList.map a.eval++cs)).toArray) w:=by
  intro hs
  have:=hC g hs
  have ea:fs.toArray++Array.map a.eval c.args++cs.toArray=(fs++(c.args.toList.map a.eval++cs)).toArray:=by
   apply Array.ext'
   simp
  simp only[execOp,hop,Sem.run_bind,resolve,hc,hv,Deferred.ofValue,Sem.run_pure,Result.andThen_ok,invoke,ea]
  exact hC g hs _ w
 split
 ·rename_i k hk
  have hX:=hE.ext g k hk
  generalize first++(c.args.toList.map (evl E ts)++caps)=args at hrep
  generalize hvs:fs++(c.args.toList.map a.eval++cs)=vs at hrep
  have run2 : ∀ v,((k.entry vs.toArray).run P w) = .ok v w->(execOp a.eval o).run P w = .ok (.value v) w:=by
   intro v hv2
   have ea:fs.toArray++Array.map a.eval c.args++cs.toArray=vs.toArray:=by
    rw[<- hvs]
    apply Array.ext'
    simp
   simp only[execOp,hop,Sem.run_bind,resolve,hc,hv,Deferred.ofValue,Sem.run_pure,Result.andThen_ok,invoke,ea]
   rw[hX,hv2]
   rfl
  have hint : ∀ {s:SVal} {k:IntKind} {n:Int} {v:Value},intV s=some (k,n)->Den ρ H s v->v = .int k n:=by
   intro s k n v hs hd
   cases s<;>simp only[intV]at hs<;>cases hs<;>simpa only[Den,Rep,List.cons.injEq,and_true]using hd
  unfold extS
  split<;>try trivial
  rename_i x y z
  obtain⟨v1,w1,rfl,d1,r1⟩:=RepV_cons.1 hrep
  obtain⟨v2,w2,rfl,d2,r2⟩:=RepV_cons.1 r1
  obtain⟨v3,w3,rfl,d3,r3⟩:=RepV_cons.1 r2
  simp only[RepV]at r3
  subst r3
  split<;>try trivial
  rename_i n1 n2 n3 q1 q2 q3
  have e1:=hint q1 d1
  have e2:=hint q2 d2
  have e3:=hint q3 d3
  subst e1;subst e2;subst e3
  split
  ·intro hp
   obtain⟨p1,p2,p3,p4⟩:=hp
   refine⟨_,run2 _ (run_add64 n1 n2 n3 p1 p2 p3 p4 w),?_,⟨trivial,trivial,trivial⟩⟩
   simp only[Den,Rep,List.cons.injEq,and_true]
   refine⟨_,rfl,?_⟩
   rw[hE.om]
   simp only[RepV,Rep,Om.real]
   exact⟨_,_,rfl,rfl,_,_,rfl,rfl,rfl⟩
  ·intro hp
   obtain⟨p1,p2,p3,p4,p5,p6⟩:=hp
   have hs:=qnY (P:=P) n1.toNat n2.toNat n3.toNat (by omega) w
   rw[Int.toNat_of_nonneg p1,Int.toNat_of_nonneg p2,Int.toNat_of_nonneg p3]at hs
   refine⟨_,run2 _ hs,?_,⟨trivial,trivial,trivial⟩⟩
   simp only[Den,Rep,List.cons.injEq,and_true]
   refine⟨_,rfl,?_⟩
   rw[hE.om]
   simp only[RepV,Rep,Om.real]
   refine⟨_,_,rfl,?_,_,_,rfl,?_,rfl⟩
   ·congr 2;omega
   ·congr 2
    split<;>split<;>first|rfl|omega
 split
 ·rename_i s hs
  exact⟨g,s,_,_,hs,rfl,rfl,run (.inl (by rw[hs];rfl)),hrep,hids⟩
 ·split<;>try trivial
  rename_i hi
  exact⟨_,run (.inr hi),hrep,hids⟩
theorem qot (R:Rel E ρ H ts h top a w) {c:Call} {b:Builtin} (hop:o.op = .call c) (hc:c.callee = .builtin b):qM P E ρ H h top a w o (qd E ts h o.op):=by
 rw[hop]
 simp only[qd,hc]
 have two : ∀ {α:Type} {l:Array α} {x y:α},l.toList=[x,y]->l = #[x,y]:=fun h=>Array.ext' h
 have one : ∀ {α:Type} {l:Array α} {x:α},l.toList=[x]->l = #[x]:=fun h=>Array.ext' h
 have fst : ∀ {α:Type} {l:Array α} {x:α} {r:List α},l.toList=x :: r->l[0]?=some x:=fun {α l x r} h=>by
  rw[<- Array.getElem?_toList,h];rfl
 split<;>try trivial
 ·rename_i x t r h1 h2
  exact qoo hE R hop hc (fst h2) (one h1)
 ·rename_i x y h1
  exact qjC hE R false hop (by simpa using hc) (two h1)
 ·rename_i x y h1
  exact qjC hE R true hop (by simpa using hc) (two h1)
 ·rename_i x y t u r h1 h2
  split<;>try trivial
  rename_i ti tu hti htu
  split<;>try trivial
  rotate_left
  ·rename_i e hd hs
   split<;>try trivial
   rename_i kn te htd hx0 hte
   split<;>try trivial
   rename_i n hy0
   obtain⟨d,hu,hm⟩:=(hE.ty t ti hti).under
   simp only[hd,TDm]at hm
   subst hm
   obtain⟨d2,hu2,hm2⟩:=(hE.ty u tu htu).under
   simp only[htd,TDm]at hm2
   subst hm2
   have hdx:=R.den1 x
   have hdy:=R.den1 y
   rw[hx0]at hdx
   rw[hy0]at hdy
   simp only[Den,Rep,List.cons.injEq,and_true]at hdx hdy
   obtain⟨i,z,hi,hsz,hby,hz,hzs,hzd⟩:=(hE.ty e te hte).info
   have e1:c.argTypes = #[t,u]++r.toArray:=Array.ext' (by simp[h2])
   have main : ∀ (zc:Value),z.cells = #[zc]->te.size=1->0<n->te.bytes*n.toNat<=140737488355328->n<=140737488355328 ->
     ∃ cap,n.toNat<=cap/\(execOp a.eval o).run P w = .ok (.value (.slice (some ⟨w.heap.size,0,none⟩) n.toNat cap)) (w.drew.alloc (.cells (Builtin.zeroCells z.cells n.toNat++Builtin.zeroCells z.cells (cap-n.toNat)) e)):=by
    intro zc hzc hs1 h0 hb hn
    obtain⟨m,rfl⟩ : ∃ m:Nat,n=m:=⟨n.toNat,by omega⟩
    have hrun:=Go.Lib.run_append_nil_zeros (P:=P) w t u o.type e i z .i64 kn hu hu2 hi hz m (by omega) (by omega) (by omega) (by rw[hby,Nat.mul_comm];have e9:((m:Int)).toNat=m:=rfl;rw[e9]at hb;omega)
    refine⟨grownCap w m 0 e,grownCap_ge w m 0 e,?_⟩
    have e9:((m:Int)).toNat=m:=rfl
    rw[e9]
    have hr2:(Builtin.append_ (#[t,u]++r.toArray) o.type #[.slice none 0 0,.int .i64 m]).run P w=(Builtin.append_ #[t,u] o.type #[.slice none 0 0,.int .i64 m]).run P w:=by
     simp[Builtin.append_]
    have hex:(execOp a.eval o).run P w=((Builtin.append_ (#[t,u]++r.toArray) o.type #[a.eval x,a.eval y]).run P w).andThen (fun v w' =>.ok (.value v) w'):=by
     simp[execOp,hop,resolve,hc,two h1,invoke,builtin,e1]
    rw[hex,hdx.1,hdy,hr2,hrun]
    rfl
   split<;>try trivial
   ·rename_i k zz hs1 hzero
    split<;>try trivial
    rename_i hz0
    have hz0:zz=0:=of_decide_eq_true hz0
    have hs1:=Nat.eq_of_beq_eq_true hs1
    rintro ⟨p1,p2,p3⟩
    have hcells:z.cells = #[.int k 0]:=by
     have:=(hzd ρ H).2
     rw[hzero]at this
     simp only[Rep]at this
     apply Array.ext'
     rw[this,hz0]
    obtain⟨cap,g1,g2⟩:=main _ hcells hs1 p1 p2 p3
    have ev:(SN.s (E.Ω.toN n)).v=n.toNat:=by rw[hE.om];rfl
    have ez : ∀ m:Nat,(Builtin.zeroCells #[.int k 0] m).toList=List.replicate m (.int k 0):=by
     intro m
     simp[Builtin.zeroCells,Nat.mod_one,List.map_const']
    refine⟨_,_,(0,0),cap,List.replicate n.toNat (.int k 0),by rw[ev];simp,by rw[ev];exact g1,by rw[ev];exact g2,?_,fun ρ' => ?_,fun j v hj => ?_,fun _=>rfl,trivial⟩
    ·rw[hcells];simp[Builtin.zeroCells];omega
    ·simp only[Rep];rw[hE.om];simp[Om.real]
    ·have hjl:=(List.getElem?_eq_some_iff.1 hj).1
     rw[hcells,<- Array.getElem?_toList,Array.toList_append,ez,List.getElem?_append_left hjl]
     exact hj
   ·rename_i hs1 hzero
    have hs1:=Nat.eq_of_beq_eq_true hs1
    rintro ⟨p1,p2,p3⟩
    have hcells:z.cells = #[.slice none 0 0]:=by
     have:=(hzd ρ H).2
     rw[hzero]at this
     simp only[Rep]at this
     apply Array.ext'
     rw[this.1]
    obtain⟨cap,g1,g2⟩:=main _ hcells hs1 p1 p2 p3
    have ev:(SN.s (E.Ω.toN n)).v=n.toNat:=by rw[hE.om];rfl
    have ez : ∀ m:Nat,(Builtin.zeroCells #[.slice none 0 0] m).toList=List.replicate m (.slice none 0 0):=by
     intro m
     simp[Builtin.zeroCells,Nat.mod_one,List.map_const']
    refine⟨_,_,(0,0),cap,List.replicate n.toNat (.slice none 0 0),by rw[ev];simp,by rw[ev];exact g1,by rw[ev];exact g2,?_,fun ρ' => ?_,fun j v hj => ?_,fun _=>rfl,trivial⟩
    ·rw[hcells];simp[Builtin.zeroCells];omega
    ·rw[hE.om]
     simp only[Rep,RepV]
     refine⟨[],List.replicate n.toNat (.slice none 0 0),rfl,rfl,fun v hv=>by simp at hv,by simp[Om.real],fun j xs hj => ?_⟩
     have hj':(List.replicate n.toNat ([]:List Int))[j]?=some xs:=hj
     rw[List.getElem?_replicate]at hj' ⊢
     split at hj'<;>cases hj'
     rename_i hlt
     rw[if_pos hlt]
     exact⟨_,rfl,none,0,rfl,Nat.le_refl _,fun j x hj=>by simp at hj⟩
    ·have hjl:=(List.getElem?_eq_some_iff.1 hj).1
     rw[hcells,<- Array.getElem?_toList,Array.toList_append,ez,List.getElem?_append_left hjl]
     exact hj
  rename_i e hd hs
  split<;>try trivial
  rename_i te hte
  split<;>try trivial
  rename_i hb
  have hb:0<te.bytes:=Nat.le_of_ble_eq_true hb
  obtain⟨d,hu,hm⟩:=(hE.ty t ti hti).under
  simp only[hd,TDm]at hm
  subst hm
  obtain⟨d2,hu2,hm2⟩:=(hE.ty u tu htu).under
  unfold qey at hs
  split at hs<;>try (cases hs;done)
  rename_i f hd2
  simp only[hd2,TDm]at hm2
  subst hm2
  refine⟨a.eval x,a.eval y,t,u,e,f,te,r.toArray,hE.ty e te hte,rfl,rfl,hb,hu,hu2,?_,R.den1 x,R.den1 y,R.ids1 x,R.ids1 y⟩
  have e1:c.argTypes = #[t,u]++r.toArray:=Array.ext' (by simp[h2])
  simp[execOp,hop,resolve,hc,two h1,invoke,builtin,e1]
 ·rename_i x t r h1 h2
  exact qop hE R hop hc (fst h2) (one h1)
 ·rename_i x y t r h1 h2
  split<;>try trivial
  rename_i ti hti
  split<;>try trivial
  rename_i e hd
  split<;>try trivial
  rename_i te hte
  split<;>try trivial
  rename_i id off len cap k' ys hsz hsx hys
  have hsz:=Nat.eq_of_beq_eq_true hsz
  split<;>try trivial
  ·rename_i k xs hl
   split<;>try trivial
   rename_i hk
   have hk:=keq_iff.1 hk
   subst hk
   intro hp
   obtain⟨p1,p2,p3⟩:=hp
   exact qjK hE R hop hc (two h1) (fst h2) hti hd hte hsz hsx hys p1 p2 (.inl ⟨hl,rfl⟩) p3
  ·rename_i k n xs hl
   split<;>try trivial
   rename_i hk
   have hk:=keq_iff.1 hk
   subst hk
   intro hp
   obtain⟨p1,p2,p3⟩:=hp
   refine qjK hE R hop hc (two h1) (fst h2) hti hd hte hsz hsx hys p1 p2 (.inr ⟨n,hl,rfl⟩) ?_
   have hj:look h id ≠ .junk:=by rw[hl];simp
   rcases R.lies hj with hg|⟨arr,tt,vs,li⟩
   ·obtain⟨_,_,k2,hk⟩:=hg
    rw[hl]at hk;cases k2<;>cases hk
   ·have:=li.rep
    rw[hl]at this
    simp only[Rep]at this
    omega
theorem qeH (hC : ∀ g,(E.G g).isSome\/E.into g->qX P g) (R:Rel E ρ H ts h top a w) (o:Oper):qM P E ρ H h top a w o (qd E ts h o.op):=by
 cases hop:o.op with
 | move x=>rw[<- hop];have:=qjt (P:=P) R x (.inl hop);rw[hop];exact this
 | assign x=>rw[<- hop];have:=qjt (P:=P) R x (.inr hop);rw[hop];exact this
 | pick c x y=>rw[<- hop];exact qn9 hE R hop
 | alloc t =>
   simp only[qd]
   split<;>try trivial
   rename_i ti ht
   exact qn0 hE R ht hop
 | box t x =>
   simp only[qd]
   split<;>try trivial
   rename_i hc
   simp only[Bool.and_eq_true]at hc
   exact qn1 R hc.1 hc.2 hop
 | build t parts=>rw[<- hop];exact qon hE R hop
 | load t x=>rw[<- hop];exact qoh hE R hop
 | store t x y =>
   simp only[qd]
   split<;>try trivial
   rename_i ti ht
   split<;>try trivial
   rename_i id off hx
   have hd:=R.den1 x
   rw[hx]at hd
   exact qn3 hE R ht hop hd
 | nilCheck x=>rw[<- hop];exact qoa hE R hop
 | binOp op t x y t'=>simp only[qd];exact qn7 hE R hop
 | unOp op t x=>rw[<- hop];exact qob hE R hop
 | convert s t x=>rw[<- hop];exact qor hE R hop
 | sliceToArrayPointer t x=>rw[<- hop];exact qok hE R hop
 | makeFunc f x c=>rw[<- hop];exact qod hE R hop
 | makeSlice t x y=>rw[<- hop];exact qom hE R hop
 | slice t x lo hi mx=>rw[<- hop];exact qoj hE R hop
 | fieldAddr t x f=>rw[<- hop];exact qoe hE R hop
 | field t x f=>rw[<- hop];exact qof hE R hop
 | indexAddr t x y=>rw[<- hop];exact qog hE R hop
 | index t x y=>rw[<- hop];exact qol hE R hop
 | extract x i=>rw[<- hop];exact qoc hE R hop
 | buildSlice t n parts=>rw[<- hop];exact qoq hE R hop
 | call c =>
   rw[<- hop]
   cases hc:c.callee with
   | value f=>exact qos hE hC R hop hc
   | builtin b=>exact qot hE R hop hc
   | invoke r m=>rw[hop];simp only[qd,hc];trivial
 | _=>trivial
end
end Go.Sx
end
section
namespace Go.Sx
section
variable {E:Env} {U:Top} {ts:List SVal} {h h':Heap}
structure WF (E:Env) (U:Top) (ts:List SVal) (h:Heap):Prop where
 ids : ∀ i,IdsLt U (getT ts i)
 hids : ∀ id c,(id,c) ∈ h->U id/\IdsLt U c
structure EnvIds (E:Env):Prop where
 zid : ∀ t ti,E.T t=some ti->IdsLt noId ti.zero
 gid : ∀ g,IdsLt noId (E.glob g)
 rid : ∀ g s args x,E.G g=some s->IdsLt noId ((s args).res x)
def qbj (U:Top):Out->Prop
 | .set v=>IdsLt U v
 | .setp _ v=>IdsLt U v
 | .new c mk=>IdsLt U c /\ ∀ id,IdsLt (fun i=>i=id) (mk id)
 | .newp _ c mk=>IdsLt U c /\ ∀ id,IdsLt (fun i=>i=id) (mk id)
 | .call _ s =>∀ x,IdsLt noId (s.res x)
 | .mkb _ c _=>IdsLt U c
 | _=>True
theorem IdsLt.of_no {s:SVal} (h:IdsLt noId s):IdsLt U s:=IdsLt.mono (fun _ h=>h.elim) _ h
variable (hE:EnvIds E) (hW:WF E U ts h)
include hE hW
theorem WF.evl (x:Operand):IdsLt U (evl E ts x):=by
 cases x with
 | tmp t=>exact hW.ids t
 | const v=>cases v<;>trivial
 | func f=>exact⟨trivial,trivial⟩
 | global g=>exact(hE.gid g).of_no
theorem WF.evls : ∀ (l:List Operand),IdsLtL U (l.map (Sx.evl E ts))
 | []=>trivial
 | x :: l=>⟨WF.evl hE hW x,WF.evls l⟩
theorem WF.evlsP : ∀ (l:List (Nat × Operand)),IdsLtL U (l.map fun p=>Sx.evl E ts p.2)
 | []=>trivial
 | x :: l=>⟨WF.evl hE hW x.2,WF.evlsP l⟩
omit hE in
theorem WF.look (id:Nat):IdsLt U (look h id):=by
 by_cases hc:Sx.look h id = .junk
 ·rw[hc];trivial
 ·exact(hW.hids _ _ (q9 rfl hc)).2
theorem WF.fillP (pl:Nat->Option (Nat × Nat)) : ∀ (l:List (Nat × Operand)) (c r:SVal),IdsLt U c->fillP E ts pl l c=some r->IdsLt U r
 | [],c,r,hc,hr=>by simp only[Sx.fillP]at hr;cases hr;exact hc
 | (i,x) :: l,c,r,hc,hr=>by
   simp only[Sx.fillP]at hr
   split at hr<;>try (cases hr;done)
   split at hr<;>try (cases hr;done)
   exact WF.fillP pl l _ r (qdn _ _ _ _ hc (WF.evl hE hW x)) hr
omit hE hW in
theorem qeI (t:TI) (c:SVal) (off:SN) (hc:IdsLt U c):qbj U (rd E t c off):=by
 unfold rd
 split
 ·split
  ·exact qbv _ _ _ _ hc
  ·split<;>trivial
  ·split
   ·exact qbv _ _ _ _ hc
   ·trivial
 ·split
  ·split<;>trivial
  ·split<;>trivial
  ·split<;>trivial
  ·trivial
omit hE hW in
theorem qou (t:TI) (id:Nat) (c:SVal) (off:SN) (v:SVal):qbj U (wr E t id c off v):=by
 unfold wr
 repeat' split
 all_goals trivial
omit hE hW in
theorem qov (op:BinOp) (t:TypeId) (x y:SVal):qbj U (binS E op t x y):=by
 unfold binS qcv
 repeat' split
 all_goals trivial
omit hE hW in
theorem qow (b:Bool) (x y:SVal):qbj U (mm E b x y):=by
 unfold mm
 repeat' split
 all_goals trivial
omit hE hW in
theorem qox (t:TypeId) (x:SVal):qbj U (lenS E t x):=by
 unfold lenS lenI
 repeat' split
 all_goals first|trivial|(simp only[qbj];split<;>trivial)
omit hE hW in
theorem qeJ (p:Option (Unit->Prop)) (v:SVal) (hv:IdsLt U v):qbj U (qag p v):=by
 unfold qag
 split<;>exact hv
omit hE hW in
theorem qoy (t:TypeId) (x y:SVal) (hx:IdsLt U x):qbj U (qb5 E t x y):=by
 unfold qb5
 repeat' split
 all_goals first
  | trivial
  | exact qeJ _ _ hx
  | exact qeJ _ _ trivial
omit hE hW in
theorem qoz (t:TypeId) (x:SVal) (lo hi mx:Option SVal) (hx:IdsLt U x):qbj U (qb6 E h t x lo hi mx):=by
 unfold qb6
 repeat' split
 all_goals first
  | trivial
  | exact hx
theorem qoA (op:Op):qbj U (qd E ts h op):=by
 have ev:=WF.evl hE hW
 cases op with
 | move x=>exact ev x
 | assign x=>exact ev x
 | pick c x y =>
   simp only[qd]
   repeat' split
   all_goals first|trivial|exact ev x|exact ev y
 | alloc t =>
   simp only[qd]
   split
   · rename_i ti ht
     exact⟨(hE.zid t ti ht).of_no,fun id=>rfl⟩
   · trivial
 | box t x =>
   simp only[qd]
   split
   · trivial
   · exact⟨ev x,fun id=>rfl⟩
 | build t parts =>
   simp only[qd]
   split<;>try trivial
   rename_i ti ht
   have hz:IdsLt U ti.zero:=(hE.zid _ _ ht).of_no
   repeat' split
   all_goals first
     | trivial
     | (rename_i c hc _;exact WF.fillP hE hW _ _ _ _ hz hc)
     | (rename_i c hc _ _;exact WF.fillP hE hW _ _ _ _ hz hc)
 | load t x =>
   simp only[qd]
   have:=ev x
   repeat' split
   all_goals first
     | trivial
     | exact qeI _ _ _ (WF.look hW _)
     | (rename_i he _;rw[he]at this;exact qeI _ _ _ this)
     | (rename_i he _ _;rw[he]at this;exact qeI _ _ _ this)
     | (rename_i he _ _ _;rw[he]at this;exact qeI _ _ _ this)
 | store t x y =>
   simp only[qd]
   repeat' split
   all_goals first|trivial|exact qou _ _ _ _ _
 | nilCheck x =>
   simp only[qd]
   have:=ev x
   split
   all_goals first|trivial|(rename_i he;rw[he]at this;exact this)
 | binOp op t x y t'=>exact qov _ _ _ _
 | unOp op t x =>
   simp only[qd]
   repeat' split
   all_goals trivial
 | convert s t x =>
   simp only[qd]
   repeat' split
   all_goals trivial
 | sliceToArrayPointer t x =>
   simp only[qd]
   have:=ev x
   repeat' split
   all_goals first|trivial|(rename_i he;rw[he]at this;exact this)
 | makeFunc f x c =>
   simp only[qd]
   split
   · exact⟨WF.evls hE hW _,WF.evls hE hW _⟩
   · trivial
 | makeSlice t x y =>
   simp only[qd]
   repeat' split
   all_goals first|trivial|exact⟨trivial,fun id=>rfl⟩
 | slice t x lo hi mx =>
   simp only[qd]
   split
   · trivial
   · exact qoz _ _ _ _ _ (ev x)
 | fieldAddr t x f =>
   simp only[qd]
   have:=ev x
   repeat' split
   all_goals first
     | trivial
     | (rename_i he;rw[he]at this;exact this)
     | (rename_i he _ _;rw[he]at this;exact this)
 | field t x f =>
   simp only[qd]
   repeat' split
   all_goals first|trivial|exact qbv _ _ _ _ (ev x)
 | indexAddr t x y=>exact qoy _ _ _ (ev x)
 | index t x y =>
   simp only[qd]
   repeat' split
   all_goals first
     | trivial
     | exact qeJ _ _ (qbv _ _ _ _ (ev x))
     | exact qeJ _ _ trivial
 | extract x i =>
   simp only[qd]
   have:=ev x
   split
   · rename_i l he
     rw[he]at this
     split
     · exact qdm _ _ this
     · trivial
   · trivial
 | buildSlice t n parts =>
   simp only[qd]
   repeat' split
   all_goals first
     | trivial
     | exact⟨trivial,fun id=>rfl⟩
     | exact⟨WF.evlsP hE hW _,fun id=>rfl⟩
 | call c =>
   simp only[qd]
   repeat' split
   all_goals first
     | trivial
     | exact qox _ _
     | exact qow _ _ _
     | (unfold capS
        repeat' split
        all_goals first
          | trivial
          | (unfold lenI;split<;>trivial))
     | (rename_i s hs;exact fun x=>hE.rid _ _ _ x hs)
     | (unfold extS
        repeat' split
        all_goals first
          | trivial
          | exact⟨trivial,trivial,trivial⟩)
 | _=>trivial
omit hE hW in
theorem qbk {s:SVal} (hi:IdsLt U s) (hl : ∀ id,U id->look h id=look h' id):qj E h s=qj E h' s:=by
 unfold qj
 split
 ·rename_i id off len cap
  have:look h id=look h' id:=hl _ hi
  simp only[this]
 case h_5 id off =>
  have:look h id=look h' id:=hl _ hi
  simp only[this]
 all_goals rfl
omit hE hW in
theorem qeK {s:SVal} (hi:IdsLt U s) (hl : ∀ id,U id->look h id=look h' id):bPre h s=bPre h' s:=by
 unfold bPre
 split
 ·rename_i id off len cap
  have:look h id=look h' id:=hl _ hi
  simp only[this]
 ·rename_i id es off len cap _
  have:look h id=look h' id:=hl _ hi
  simp only[this]
 ·rfl
omit hE hW in
theorem qeL (hl : ∀ id,U id->look h id=look h' id) : ∀ (l:List SVal),IdsLtL U l->qaG h l=qaG h' l
 | [],_=>rfl
 | s :: l,hi=>by simp only[qaG];rw[qeL hl l hi.2,qeK hi.1 hl]
omit hE hW in
theorem qg9 (hl : ∀ id,U id->look h id=look h' id) : ∀ (l:List SVal),IdsLtL U l->l.map (qj E h)=l.map (qj E h')
 | [],_=>rfl
 | s :: l,hi=>by simp only[List.map_cons];rw[qg9 hl l hi.2,qbk hi.1 hl]
omit hE hW in
theorem qjL (hl : ∀ id,U id->look h id=look h' id) : ∀ (l:List SVal),IdsLtL U l->l.map (qaa E h)=l.map (qaa E h')
 | [],_=>rfl
 | s :: l,hi=>by
   simp only[List.map_cons]
   rw[qjL hl l hi.2]
   congr 1
   unfold qaa
   split<;>try rfl
   rename_i id es off len cap
   have e:look h id=look h' id:=hl _ hi.1
   rw[<- e]
   split<;>try rfl
   exact qbk hi.1 hl
omit hE in
theorem qoB {s:SVal} (hi:IdsLt U s) (hl : ∀ id,U id->look h id=look h' id):qO E h s=qO E h' s:=by
 unfold qO
 split
 ·rename_i id off len cap
  have e:look h id=look h' id:=hl _ hi
  rw[<- e]
  split
  ·rename_i l hq
   have hi2:IdsLtL U l:=(hW.hids id _ (q9 hq (by simp))).2
   rw[qg9 hl l hi2]
  ·rename_i l xss hq
   have hi2:IdsLtL U l:=(hW.hids id _ (q9 hq (by simp))).2
   rw[qg9 hl l hi2]
  ·exact qbk hi hl
 ·rename_i id
  have e:look h id=look h' id:=hl _ hi
  rw[<- e]
  split
  ·rename_i l hq
   have hi2:IdsLtL U l:=(hW.hids id _ (q9 hq (by simp))).2
   rw[qjL hl l hi2,qbk (s :=.ptr id (.l 0)) hi hl]
  ·exact qbk hi hl
 ·rename_i id es n cap _
  have e:look h id=look h' id:=hl _ hi
  rw[<- e]
  split
  ·rfl
  ·rfl
  ·exact qbk hi hl
 ·rename_i id es n cap _
  have e:look h id=look h' id:=hl _ hi
  rw[<- e]
  split
  ·rfl
  ·exact qbk hi hl
 ·exact qbk hi hl
omit hE in
theorem qoC {s:SVal} (hi:IdsLt U s) (hl : ∀ id,U id->look h id=look h' id):qa6 h s=qa6 h' s:=by
 unfold qa6
 split
 ·rename_i id off len cap
  have e:look h id=look h' id:=hl _ hi
  rw[<- e]
  split
  ·rename_i l hq
   have hi2:IdsLtL U l:=(hW.hids id _ (q9 hq (by simp))).2
   exact qeL hl l hi2
  ·rename_i l xss hq
   have hi2:IdsLtL U l:=(hW.hids id _ (q9 hq (by simp))).2
   rw[qeL hl l hi2]
  ·exact qeK hi hl
 ·rename_i id
  have e:look h id=look h' id:=hl _ hi
  rw[<- e]
  split
  ·rename_i l hq
   have hi2:IdsLtL U l:=(hW.hids id _ (q9 hq (by simp))).2
   exact qeL hl l hi2
  ·rfl
 ·rename_i id es off len cap _
  have e:look h id=look h' id:=hl _ hi
  rw[<- e]
 ·rfl
omit hE hW in
theorem hasS2_stable (hl : ∀ id,U id->look h id=look h' id) : ∀ (l:List SVal),IdsLtL U l->hasS2 h l=hasS2 h' l
 | [],_=>rfl
 | s :: l,hi=>by
   have ih:=hasS2_stable hl l hi.2
   unfold hasS2
   split
   · rfl
   · rename_i id
     have e:look h id=look h' id:=hl _ hi.1
     rw[<- e,ih]
   · exact ih
omit hE in
theorem qjM (hl : ∀ id,U id->look h id=look h' id) : ∀ (l:List SVal),IdsLtL U l->l.map (qO E h)=l.map (qO E h')/\qbC h l=qbC h' l
 | [],_=>⟨rfl,rfl⟩
 | s :: l,hi=>by
   obtain⟨h1,h2⟩:=qjM hl l hi.2
   exact⟨by simp only[List.map_cons];rw[h1,qoB hW hi.1 hl],by simp only[qbC];rw[h2,qoC hW hi.1 hl]⟩
omit hE hW in
theorem qdr : ∀ {l l':List SVal},IdsLtL U l->IdsLtL U l'->IdsLtL U (l++l')
 | [],_,_,h2=>h2
 | _ :: _,_,h1,h2=>⟨h1.1,qdr h1.2 h2⟩
theorem qoD (hl : ∀ id,U id->look h id=look h' id) (op:Op):qd E ts h op=qd E ts h' op:=by
 have ev:=WF.evl hE hW
 cases op with
 | load t x =>
   simp only[qd]
   have:=ev x
   cases he:evl E ts x<;>simp only
   rw[he]at this
   rw[hl _ this]
 | store t x y =>
   simp only[qd]
   have:=ev x
   cases he:evl E ts x<;>simp only
   rw[he]at this
   rw[hl _ this]
 | slice t x lo hi mx =>
   simp only[qd,qb6]
   have:=ev x
   cases he:evl E ts x<;>simp only
   rename_i id off
   rw[he]at this
   cases off<;>simp only
   rw[hl _ this]
 | convert s t x =>
   simp only[qd]
   have ix:=ev x
   have e1:qaT E h (evl E ts x)=qaT E h' (evl E ts x):=by simp only[qaT,qbk ix hl]
   have e2:=qeK ix hl
   revert e1 e2 ix
   generalize evl E ts x=v
   intro ix e1 e2
   cases E.T t with
   | none=>rfl
   | some ti =>
     cases (E.T s).isSome with
     | false=>rfl
     | true =>
       dsimp only
       cases ti.d with
       | slice e =>
         cases v with
         | sl id es off len cap =>
           have e3:look h id=look h' id:=hl _ ix
           simp only[e3]
         | val u=>cases u<;>rfl
         | _=>rfl
       | str =>
         simp only[e1,e2]
       | _=>cases v<;>rfl
 | call c =>
   simp only[qd]
   cases hc:c.callee with
   | value f =>
     simp only
     have:=ev f
     cases he:evl E ts f<;>simp only
     rw[he]at this
     obtain⟨h1,h2⟩:=qjM hW (E:=E) hl _ (qdr this.1 (qdr (WF.evls hE hW c.args.toList) this.2))
     have h3:=hasS2_stable (U:=U) hl _ (qdr this.1 (qdr (WF.evls hE hW c.args.toList) this.2))
     simp only[qdf,h1,h2,h3]
   | builtin b =>
     simp only
     generalize c.args.toList=l1
     generalize c.argTypes.toList=l2
     cases b with
     | copy =>
       rcases l1 with _|⟨x,_|⟨y,_|⟨z,l⟩⟩⟩<;>rcases l2 with _|⟨t,r⟩<;>try rfl
       have e1:qaT E h (evl E ts y)=qaT E h' (evl E ts y):=by simp only[qaT,qbk (ev y) hl]
       have e2:=qeK (ev y) hl
       have:=ev x
       dsimp only
       simp only[e1,e2]
       cases E.T t with
       | none=>rfl
       | some ti =>
         dsimp only
         cases ti.d with
         | slice e =>
           dsimp only
           cases E.T e with
           | none=>rfl
           | some te =>
             dsimp only
             generalize te.size.beq 1=bb
             generalize qaT E h' (evl E ts y)=kk
             generalize evl E ts x=xx at this
             cases bb<;>cases xx<;>cases kk<;>try rfl
             case true.sl.none id es off len cap =>
               match es with
               | 0=>rfl
               | 1=>rfl
               | n+2=>rfl
             case true.sl.some id es off len cap kk =>
               have e3:look h id=look h' id:=hl _ this
               match es with
               | 0=>rfl
               | 1 =>
                 obtain⟨k1,ys⟩:=kk
                 split
                 · rename_i q1 q2 q3
                   cases q2
                   cases q3
                   rw[e3]
                 · rfl
               | n+2=>rfl
         | _=>rfl
     | cap=>rcases l1 with _|⟨x,_|⟨y,l⟩⟩<;>rcases l2 with _|⟨t,r⟩<;>rfl
     | len=>rcases l1 with _|⟨x,_|⟨y,l⟩⟩<;>rcases l2 with _|⟨t,r⟩<;>rfl
     | min=>rcases l1 with _|⟨x,_|⟨y,_|⟨z,l⟩⟩⟩<;>rfl
     | max=>rcases l1 with _|⟨x,_|⟨y,_|⟨z,l⟩⟩⟩<;>rfl
     | append=>rcases l1 with _|⟨x,_|⟨y,_|⟨z,l⟩⟩⟩<;>rcases l2 with _|⟨t,_|⟨u,r⟩⟩<;>rfl
     | _=>rfl
   | invoke r m=>rfl
 | _=>rfl
end
end Go.Sx
end
section
namespace Go.Sx
structure NF where
 pre:Prop
 X:Type
 post:X->Prop
 v:X->SVal
 l:X->List (Nat × SVal)
def nf (E:Env) (b:Nat):Out->Option NF
 | .set v=>some ⟨True,Unit,fun _=>True,fun _=>v,fun _=>[]⟩
 | .setp p v=>some ⟨∀ u,p u,Unit,fun _=>True,fun _=>v,fun _=>[]⟩
 | .new c mk=>some ⟨True,Unit,fun _=>True,fun _=>mk b,fun _=>[(b,c)]⟩
 | .newp p c mk=>some ⟨∀ u,p u,Unit,fun _=>True,fun _=>mk b,fun _=>[(b,c)]⟩
 | .call p s=>some ⟨(∀ q,p=some q -> ∀ u,q u)/\s.pre,s.X,s.post,fun x=>(place E b (s.res x)).1,fun x=>(place E b (s.res x)).2⟩
 | .any p=>some ⟨True,Bool,fun b=>b=true->p,fun b =>.bs b,fun _=>[]⟩
 | .mkb p c n=>some ⟨∀ u,p u,Nat,fun cap=>n.v<=cap,fun cap =>.sl b 1 (.l 0) n (.s cap),fun _=>[(b,c)]⟩
 | _=>none
def gd (all:List Oper) (i:Nat) (v:SVal):SVal :=
 match v with
 | .bs b=>match qas i all with
   | true =>.bl b
   | false =>.bs b
 | v=>v
section
variable (E:Env) (all:List Oper) (base:Nat)
def nfg (i:Nat) (o:Oper) (ts:List SVal) (h:Heap):Option NF :=
 match qP all ts o with
 | none=>none
 | some false=>some ⟨True,Unit,fun _=>True,fun _ =>.tup [],fun _=>[]⟩
 | some true=>match nf E (base+8*i) (qd E ts h o.op)with
   | some N=>some { N with v:=fun x=>gd all i (N.v x) }
   | none=>none
abbrev Kt:=List SVal->Heap->Prop
def wrT (i:Nat) (o:Oper) (K:Kt) (ts:List SVal) (h:Heap):Out->Prop
 | .upd id c=>K (putD ts o.dst .junk) (updH h id c)
 | .updp p id c=>(∀ u,p u)/\K (putD ts o.dst .junk) (updH h id c)
 | .cpy p v id c=>(∀ u,p u)/\K (putD ts o.dst (gd all i v)) (updH h id c)
 | .app es bytes s x=>match appS E h es s,appS E h es x,qdg h s x with
   | some (id,k1,xs,n1),some (_,k2,ys,n2),true=>match appK k1 k2 with
     | some kk=>((n1.v+n2.v)*bytes<=140737488355328/\aPre h es s/\aPre h es x) /\
       ∀ cap:Nat,n1.v+n2.v<=cap->K (putD ts o.dst (.sl (base+8*i) es (.l 0) (n1.add E.Ω n2) (.s cap))) (insH (base+8*i) (.seq kk (appC E.Ω id xs ys)) (delO id h))
     | none=>False
   | _,_,_=>match appA h es s,appA h es x with
     | some (id,q1,n1),some (_,q2,n2)=>match q1.cat E.Ω q2 with
       | some q=>((n1.v+n2.v)*bytes<=140737488355328/\n1.v=q1.len/\n2.v=q2.len/\0<n2.v) /\
         ∀ cap:Nat,n1.v+n2.v<=cap->K (putD ts o.dst (.sl (base+8*i) es (.l 0) (n1.add E.Ω n2) (.s cap))) (insH (base+8*i) (.sab q) (delO id h))
       | none=>False
     | _,_=>match appL E h s,appL E h x,qbh h s && Nat.beq es 1 with
       | some (id,l1,t1,n1),some (_,l2,t2,n2),true=>match catL E.Ω l1 t1 l2 t2 with
         | some c=>((n1.v+n2.v)*bytes<=140737488355328/\n1.v=lenL l1 t1/\n2.v=lenL l2 t2) /\
           ∀ cap:Nat,n1.v+n2.v<=cap->K (putD ts o.dst (.sl (base+8*i) es (.l 0) (n1.add E.Ω n2) (.s cap))) (insH (base+8*i) c (delO id h))
         | none=>False
       | _,_,_=>False
 | _=>False
def T (i:Nat) (K:Kt) (ts:List SVal) (h:Heap):Prop :=
 match all[i]? with
 | none=>False
 | some o=>match nfg E all base i o ts h with
   | some N=>N.pre/\(∃ x,N.post x) /\ ∀ x,N.post x->K (putD ts o.dst (N.v x)) (qC (N.l x) h)
   | none=>match qP all ts o with
     | some true=>wrT E all base i o K ts h (qd E ts h o.op)
     | _=>False
def qca (L:List Nat) (K:Kt):Kt:=L.foldr (fun i K=>T E all base i K) K
end
def own (base i:Nat):Top:=fun id=>base+8*i<=id/\id<base+8*i+8
def both (U V:Top):Top:=fun id=>U id\/V id
theorem qds {E:Env} {ts ts':List SVal} {x:Operand} (h : ∀ t,x = .tmp t->getT ts t=getT ts' t):evl E ts x=evl E ts' x:=by
 cases x with
 | tmp t=>exact h t rfl
 | _=>rfl
theorem qjN {E:Env} {ts ts':List SVal} (pl:Nat->Option (Nat × Nat)) : ∀ (l:List (Nat × Operand)) (c:SVal),(∀ p ∈ l,evl E ts p.2=evl E ts' p.2)->fillP E ts pl l c=fillP E ts' pl l c
 | [],c,_=>rfl
 | (i,x) :: l,c,hl=>by
   simp only[fillP,hl (i,x) (List.mem_cons_self ..)]
   split
   · split
     · exact qjN pl l _ fun p hp=>hl p (List.mem_cons_of_mem _ hp)
     · rfl
   · rfl
theorem qdt {E:Env} {ts ts':List SVal} {h:Heap} (op:Op) (hx : ∀ x ∈ op.operands,evl E ts x=evl E ts' x):qd E ts h op=qd E ts' h op:=by
 have mapA : ∀ (l:Array Operand),(∀ x ∈ l,evl E ts x=evl E ts' x)->l.toList.map (evl E ts)=l.toList.map (evl E ts'):=fun l hl =>
  List.map_congr_left fun x hx=>hl x (by simpa using hx)
 have mapP : ∀ (l:Array (Nat × Operand)),(∀ x ∈ (l.toList.map (·.2)).toArray,evl E ts x=evl E ts' x)->(l.toList.map fun p=>evl E ts p.2)=l.toList.map fun p=>evl E ts' p.2:=fun l hl =>
  List.map_congr_left fun x hx=>hl x.2 (by simp;exact⟨x.1,by simpa using hx⟩)
 have filP : ∀ (l:Array (Nat × Operand)),(∀ x ∈ (l.toList.map (·.2)).toArray,evl E ts x=evl E ts' x) -> ∀ p ∈ l.toList,evl E ts p.2=evl E ts' p.2:=fun l hl p hp =>
  hl p.2 (by simp;exact⟨p.1,by simpa using hp⟩)
 cases op<;>simp only[Op.operands]at hx<;>try rfl
 case build t ps =>
  simp only[qd]
  simp only[qjN _ ps.toList _ (filP ps hx)]
 case buildSlice t n ps=>simp only[qd,mapP ps hx]
 case makeFunc f first caps =>
  simp only[qd,mapA first fun x h=>hx x (by simp[h]),mapA caps fun x h=>hx x (by simp[h])]
 case slice t x lo hi mx =>
  have e1:evl E ts x=evl E ts' x:=hx x (by simp)
  have e2:lo.map (evl E ts)=lo.map (evl E ts'):=by cases lo with|none=>rfl|some y=>simp only[Option.map];rw[hx y (by simp)]
  have e3:hi.map (evl E ts)=hi.map (evl E ts'):=by cases hi with|none=>rfl|some y=>simp only[Option.map];rw[hx y (by simp)]
  have e4:mx.map (evl E ts)=mx.map (evl E ts'):=by cases mx with|none=>rfl|some y=>simp only[Option.map];rw[hx y (by simp)]
  simp only[qd,e1,e2,e3,e4]
 case call c =>
  have ea:c.args.toList.map (evl E ts)=c.args.toList.map (evl E ts'):=mapA c.args fun x h=>hx x (by simp[Call.operands,h])
  simp only[qd]
  cases hc:c.callee with
  | value f=>simp only[ea,hx f (by simp[Call.operands,hc])]
  | invoke r m=>rfl
  | builtin b =>
    have hm : ∀ x ∈ c.args.toList,evl E ts x=evl E ts' x:=fun x h=>hx x (by simp[Call.operands];exact .inr (by simpa using h))
    generalize c.args.toList=l1 at hm
    generalize c.argTypes.toList=l2
    cases b with
    | cap => rcases l1 with _|⟨x,_|⟨y,l⟩⟩<;>rcases l2 with _|⟨t,r⟩<;>try rfl
             simp only[hm x (by simp)]
    | len => rcases l1 with _|⟨x,_|⟨y,l⟩⟩<;>rcases l2 with _|⟨t,r⟩<;>try rfl
             simp only[hm x (by simp)]
    | min => rcases l1 with _|⟨x,_|⟨y,_|⟨z,l⟩⟩⟩<;>try rfl
             simp only[hm x (by simp),hm y (by simp)]
    | max => rcases l1 with _|⟨x,_|⟨y,_|⟨z,l⟩⟩⟩<;>try rfl
             simp only[hm x (by simp),hm y (by simp)]
    | append => rcases l1 with _|⟨x,_|⟨y,_|⟨z,l⟩⟩⟩<;>rcases l2 with _|⟨t,_|⟨u,r⟩⟩<;>try rfl
                simp only[hm x (by simp),hm y (by simp)]
    | copy => rcases l1 with _|⟨x,_|⟨y,_|⟨z,l⟩⟩⟩<;>rcases l2 with _|⟨t,r⟩<;>try rfl
              simp only[hm x (by simp),hm y (by simp)]
    | _=>rfl
 all_goals simp_all [qd]
theorem qbl {ts:List SVal} {d:Option Nat} {v:SVal} {t:Nat} (h:d ≠ some t):getT (putD ts d v) t=getT ts t:=by
 cases d with
 | none=>rfl
 | some d=>exact qjm ts d t v fun e=>h (by rw[e])
theorem qha {ts:List SVal} {d e:Option Nat} {v u:SVal} (h : ∀ t,d=some t->e ≠ some t):putD (putD ts d v) e u=putD (putD ts e u) d v:=by
 cases d with
 | none=>rfl
 | some d =>
   cases e with
   | none=>rfl
   | some e =>
     have hne:d ≠ e:=fun q=>h d rfl (by rw[q])
     simp only[putD]
     clear h
     induction ts generalizing d e with
     | nil=>rfl
     | cons s ts ih =>
       cases d<;>cases e<;>simp only[setT]
       · exact absurd rfl hne
       · rw[ih]
         exact fun q=>hne (by rw[q])
theorem qoE {i j:Nat} {c d:SVal} (hne:i ≠ j) : ∀ (h:Heap),insH i c (insH j d h)=insH j d (insH i c h):=by
 have key : ∀ (i j:Nat) (c d:SVal),i<j -> ∀ (h:Heap),insH i c (insH j d h)=insH j d (insH i c h):=by
  intro i j c d hlt h
  have e1:Nat.ble j i=false:=by rw[Bool.eq_false_iff];intro q;have:=Nat.le_of_ble_eq_true q;omega
  have e2:Nat.ble i j=true:=Nat.ble_eq_true_of_le (by omega)
  induction h with
  | nil=>simp only[insH,e1,e2]
  | cons p r ih =>
    obtain⟨k,e⟩:=p
    by_cases h1:k<=i
    · simp only[insH,Nat.ble_eq_true_of_le h1,Nat.ble_eq_true_of_le (show k<=j by omega),e1,e2]
    · have f1:Nat.ble k i=false:=by rw[Bool.eq_false_iff];intro q;have:=Nat.le_of_ble_eq_true q;omega
      by_cases h2:k<=j
      · simp only[insH,f1,Nat.ble_eq_true_of_le h2,e1]
      · have f2:Nat.ble k j=false:=by rw[Bool.eq_false_iff];intro q;have:=Nat.le_of_ble_eq_true q;omega
        simp only[insH,f1,f2,ih]
 intro h
 rcases Nat.lt_or_gt_of_ne hne with q|q
 ·exact key i j c d q h
 ·exact(key j i d c q h).symm
theorem qjO {j:Nat} {d:SVal} : ∀ (l:List (Nat × SVal)),(∀ p ∈ l,p.1 ≠ j) -> ∀ h,qC l (insH j d h)=insH j d (qC l h)
 | [],_,h=>rfl
 | (i,c) :: l,hl,h=>by
   simp only[qC]
   rw[qoE (hl (i,c) (List.mem_cons_self ..)),qjO l (fun p hp=>hl p (List.mem_cons_of_mem _ hp))]
theorem qjP : ∀ (l m:List (Nat × SVal)),(∀ p ∈ l,∀ q ∈ m,p.1 ≠ q.1) -> ∀ h,qC l (qC m h)=qC m (qC l h)
 | [],m,_,h=>rfl
 | (i,c) :: l,m,hl,h=>by
   simp only[qC]
   rw[<- qjO m (fun p hp e=>hl (i,c) (List.mem_cons_self ..) p hp e.symm),qjP l m (fun p hp=>hl p (List.mem_cons_of_mem _ hp))]
theorem qjQ {i j:Nat} {c:SVal} (hne:i ≠ j) : ∀ (h:Heap),look (insH i c h) j=look h j
 | []=>by
   have:Nat.beq i j=false:=by rw[Bool.eq_false_iff];intro q;exact hne (Nat.eq_of_beq_eq_true q)
   simp only[insH,look,this]
 | (k,e) :: r=>by
   have:Nat.beq i j=false:=by rw[Bool.eq_false_iff];intro q;exact hne (Nat.eq_of_beq_eq_true q)
   simp only[insH]
   split
   · simp only[look,this]
   · simp only[look,qjQ hne r]
theorem qjR {j:Nat} : ∀ (l:List (Nat × SVal)),(∀ p ∈ l,p.1 ≠ j) -> ∀ h,look (qC l h) j=look h j
 | [],_,h=>rfl
 | (i,c) :: l,hl,h=>by
   simp only[qC]
   rw[qjR l (fun p hp=>hl p (List.mem_cons_of_mem _ hp)),qjQ (hl (i,c) (List.mem_cons_self ..))]
theorem qeM {i:Nat} {c:SVal} {p:Nat × SVal} : ∀ (h:Heap),p ∈ insH i c h ↔ p=(i,c)\/p ∈ h
 | []=>by simp[insH]
 | (k,e) :: r=>by
   simp only[insH]
   split
   · simp
   · simp only[List.mem_cons,qeM r]
     constructor
     · rintro (h|h|h)
       · exact .inr (.inl h)
       · exact .inl h
       · exact .inr (.inr h)
     · rintro (h|h|h)
       · exact .inr (.inl h)
       · exact .inl h
       · exact .inr (.inr h)
theorem qcC {p:Nat × SVal} : ∀ (l:List (Nat × SVal)) (h:Heap),p ∈ qC l h ↔ p ∈ l\/p ∈ h
 | [],h=>by simp[qC]
 | (i,c) :: l,h=>by
   simp only[qC,qcC l,qeM,List.mem_cons]
   constructor
   · rintro (h|h|h)
     · exact .inl (.inr h)
     · exact .inl (.inl h)
     · exact .inr h
   · rintro ((h|h)|h)
     · exact .inr (.inl h)
     · exact .inl h
     · exact .inr (.inr h)
end Go.Sx
end
section
namespace Go.Sx
structure EnvIds' (E:Env):Prop extends EnvIds E where
 few : ∀ g s args x,E.G g=some s -> ∀ b,∀ p ∈ (place E b ((s args).res x)).2,b<=p.1/\p.1<b+8
theorem qeN {E:Env} {b:Nat} {U:Top} {v:SVal} (hv:IdsLt noId v) (hU : ∀ p ∈ (place E b v).2,U p.1):IdsLt U (place E b v).1 /\ ∀ p ∈ (place E b v).2,IdsLt U p.2:=by
 have key : ∀ (l:List SVal) (b:Nat),IdsLtL noId l->(∀ p ∈ (place.placeL E b l).2,U p.1)->IdsLtL U (place.placeL E b l).1 /\ ∀ p ∈ (place.placeL E b l).2,IdsLt U p.2:=by
  intro l
  induction l with
  | nil=>intro b _ _;exact⟨trivial,by intro p hp;simp[place.placeL]at hp⟩
  | cons s l ih =>
    intro b hl hU
    cases s
    case fr k xs cap =>
      simp only[place.placeL]at hU ⊢
      obtain⟨h1,h2⟩:=ih (b+1) hl.2 fun p hp=>hU p (List.mem_cons_of_mem _ hp)
      refine⟨⟨hU _ (List.mem_cons_self ..),h1⟩,fun p hp => ?_⟩
      rcases List.mem_cons.1 hp with rfl|hp
      · trivial
      · exact h2 p hp
    case fra q cap =>
      simp only[place.placeL]at hU ⊢
      obtain⟨h1,h2⟩:=ih (b+1) hl.2 fun p hp=>hU p (List.mem_cons_of_mem _ hp)
      refine⟨⟨hU _ (List.mem_cons_self ..),h1⟩,fun p hp => ?_⟩
      rcases List.mem_cons.1 hp with rfl|hp
      · trivial
      · exact h2 p hp
    all_goals
      simp only[place.placeL]at hU ⊢
      obtain⟨h1,h2⟩:=ih b hl.2 hU
      exact⟨⟨hl.1.of_no,h1⟩,h2⟩
 cases v
 case fr k xs cap =>
  simp only[place]at hU ⊢
  refine⟨hU _ (List.mem_cons_self ..),fun p hp => ?_⟩
  rcases List.mem_cons.1 hp with rfl|hp
  ·trivial
  ·cases hp
 case fra q cap =>
  simp only[place]at hU ⊢
  refine⟨hU _ (List.mem_cons_self ..),fun p hp => ?_⟩
  rcases List.mem_cons.1 hp with rfl|hp
  ·trivial
  ·cases hp
 case tup l =>
  simp only[place]at hU ⊢
  exact key l b hv hU
 case frp l =>
  simp only[place]at hU ⊢
  obtain⟨h1,h2⟩:=key l (b+1) hv fun p hp=>hU p (List.mem_cons_of_mem _ hp)
  refine⟨hU _ (List.mem_cons_self ..),fun p hp => ?_⟩
  rcases List.mem_cons.1 hp with rfl|hp
  ·exact h1
  ·exact h2 p hp
 all_goals exact⟨hv.of_no,by intro p hp;simp[place]at hp⟩
theorem qjS {E:Env} {ts:List SVal} {h:Heap} {op:Op} {p:Option (Unit->Prop)} {s:PR} (hs:qd E ts h op = .call p s) : ∃ g s0 args,E.G g=some s0/\s=s0 args:=by
 have : ∀ (o:Out),(∃ op,o=qd E ts h op)->o = .call p s -> ∃ g s0 args,E.G g=some s0/\s=s0 args:=by
  rintro o ⟨op,rfl⟩ ho
  cases op<;>simp only[qd]at ho
  case call c =>
   split at ho
   ·split at ho<;>(try unfold lenS at ho)<;>(try unfold capS at ho)<;>(try unfold mm at ho)<;>(repeat' split at ho)<;>cases ho
   ·split at ho<;>try (cases ho;done)
    split at ho
    ·unfold extS at ho
     repeat' split at ho
     all_goals (cases ho;done)
    split at ho
    ·rename_i s1 hs1
     cases ho
     exact⟨_,_,_,hs1,rfl⟩
    ·split at ho<;>cases ho
   ·cases ho
  case load => repeat' split at ho
               all_goals first|(cases ho;done)|(unfold rd at ho;(repeat' split at ho);all_goals cases ho)
  case store => repeat' split at ho
                all_goals first|(cases ho;done)|(unfold wr at ho;(repeat' split at ho);all_goals cases ho)
  case binOp => unfold binS qcv at ho;repeat' split at ho
                all_goals cases ho
  case slice => unfold qb6 at ho;repeat' split at ho
                all_goals cases ho
  case indexAddr => unfold qb5 qag at ho;repeat' split at ho
                    all_goals cases ho
  case index => unfold qag at ho;repeat' split at ho
                all_goals cases ho
  all_goals first
   | (cases ho;done)
   | (repeat' split at ho
      all_goals cases ho)
 exact this _ ⟨op,rfl⟩ hs
section
variable {E:Env} {all:List Oper} {base:Nat} (hE:EnvIds' E)
theorem qcb {U:Top} {i:Nat} {v:SVal} (h:IdsLt U v):IdsLt U (gd all i v):=by
 unfold gd
 split
 ·split<;>trivial
 ·exact h
structure NFOk (U:Top) (b:Nat) (N:NF):Prop where
 v : ∀ x,IdsLt (both U fun id=>b<=id/\id<b+8) (N.v x)
 l : ∀ x,∀ p ∈ N.l x,(b<=p.1/\p.1<b+8)/\IdsLt (both U fun id=>b<=id/\id<b+8) p.2
include hE
theorem qoF {U:Top} {b:Nat} {ts:List SVal} {h:Heap} {op:Op} {N:NF} (hW:WF E U ts h) (hn:nf E b (qd E ts h op)=some N):NFOk U b N:=by
 have hi:=qoA hE.toEnvIds hW op
 have hc:=fun p s=>qjS (E:=E) (ts:=ts) (h:=h) (op:=op) (p:=p) (s:=s)
 have inl : ∀ {s:SVal},IdsLt U s->IdsLt (both U fun id=>b<=id/\id<b+8) s:=fun h=>IdsLt.mono (fun _ =>.inl) _ h
 generalize hs:qd E ts h op=out at hn hi hc
 cases out<;>simp only[nf]at hn<;>try (cases hn;done)
 case set v =>
  cases hn
  exact⟨fun _=>inl hi,fun x p hp=>by cases hp⟩
 case setp p v =>
  cases hn
  exact⟨fun _=>inl hi,fun x p hp=>by cases hp⟩
 case new c mk =>
  cases hn
  refine⟨fun _=>IdsLt.mono (fun i h =>.inr (by subst h;omega)) _ (hi.2 b),fun x p hp => ?_⟩
  simp only[List.mem_singleton]at hp
  subst hp
  exact⟨by dsimp only;omega,inl hi.1⟩
 case newp q c mk =>
  cases hn
  refine⟨fun _=>IdsLt.mono (fun i h =>.inr (by subst h;omega)) _ (hi.2 b),fun x p hp => ?_⟩
  simp only[List.mem_singleton]at hp
  subst hp
  exact⟨by dsimp only;omega,inl hi.1⟩
 case any p =>
  cases hn
  exact⟨fun _=>trivial,fun x p hp=>by cases hp⟩
 case mkb q c n =>
  cases hn
  refine⟨fun _ =>.inr ⟨Nat.le_refl _,by omega⟩,fun x p hp => ?_⟩
  simp only[List.mem_singleton]at hp
  subst hp
  exact⟨by dsimp only;omega,inl hi⟩
 case call q s =>
  cases hn
  obtain⟨g,s0,args,h1,rfl⟩:=hc q s rfl
  have hf:=fun x=>hE.few g s0 args x h1 b
  have hp:=fun x=>qeN (U:=both U fun id=>b<=id/\id<b+8) (hE.rid g s0 args x h1) fun p hp =>.inr (hf x p hp)
  exact⟨fun x=>(hp x).1,fun x p h=>⟨hf x p h,(hp x).2 p h⟩⟩
theorem qhb {U:Top} {i:Nat} {o:Oper} {ts:List SVal} {h:Heap} {N:NF} (hW:WF E U ts h) (hn:nfg E all base i o ts h=some N):NFOk U (base+8*i) N:=by
 unfold nfg at hn
 split at hn<;>try (cases hn;done)
 ·cases hn
  exact⟨fun _=>trivial,fun x p hp=>by cases hp⟩
 ·split at hn<;>try (cases hn;done)
  rename_i M hM
  cases hn
  have:=qoF hE hW hM
  exact⟨fun x=>qcb (this.v x),this.l⟩
omit hE in
theorem WF.after {U:Top} {b:Nat} {ts:List SVal} {h:Heap} {N:NF} {d:Option Nat} (hW:WF E U ts h) (hN:NFOk U b N) (x:N.X) :
  WF E (both U fun id=>b<=id/\id<b+8) (putD ts d (N.v x)) (qC (N.l x) h):=by
 refine⟨fun i => ?_,fun id c hc => ?_⟩
 ·by_cases hd:d=some i
  ·subst hd
   simp only[putD]
   by_cases hi:i<ts.length
   ·rw[qeA _ _ _ hi];exact hN.v x
   ·rw[qeB _ _ _ (by omega)];exact IdsLt.mono (fun _ =>.inl) _ (hW.ids i)
  ·rw[qbl hd];exact IdsLt.mono (fun _ =>.inl) _ (hW.ids i)
 ·rcases (qcC _ _).1 hc with hc|hc
  ·exact⟨.inr (hN.l x _ hc).1,(hN.l x _ hc).2⟩
  ·exact⟨.inl (hW.hids _ _ hc).1,IdsLt.mono (fun _ =>.inl) _ (hW.hids _ _ hc).2⟩
omit hE in
theorem qdu {ts:List SVal} {d:Option Nat} {v:SVal} {o:Oper} (hd : ∀ g w,o.guard=some (g,w) -> ∀ oj,all[g]?=some oj -> ∀ t,oj.dst=some t->d ≠ some t) :
  qP all (putD ts d v) o=qP all ts o:=by
 unfold qP
 cases hg:o.guard with
 | none=>rfl
 | some gw =>
   obtain⟨g,w⟩:=gw
   simp only
   cases ho:all[g]? with
   | none=>rfl
   | some oj =>
     simp only
     cases ht:oj.dst with
     | none=>rfl
     | some t=>simp only;rw[qbl (hd g w hg oj ho t ht)]
theorem qjT {U:Top} {i:Nat} {r o:Oper} {ts:List SVal} {h:Heap} {v:SVal} {l:List (Nat × SVal)} (hW:WF E U ts h)
  (hap : ∀ d,r.dst=some d->d ∉ o.looksAt all.toArray) (hl : ∀ p ∈ l,¬ U p.1) :
  nfg E all base i o (putD ts r.dst v) (qC l h)=nfg E all base i o ts h:=by
 have hg:qP all (putD ts r.dst v) o=qP all ts o:=qdu fun g w hg oj ho t ht e=>by
  refine hap t e ?_
  simp[Oper.looksAt,hg,ho,ht]
 have h1:qd E (putD ts r.dst v) (qC l h) o.op=qd E ts (qC l h) o.op:=qdt _ fun x hx=>qds fun t ht=>by
  subst ht
  refine qbl fun e=>hap t e ?_
  simp only[Oper.looksAt,List.mem_append,List.mem_filterMap]
  exact .inl ⟨.tmp t,by simpa using hx,rfl⟩
 have h2:qd E ts (qC l h) o.op=qd E ts h o.op:=by
  refine(qoD hE.toEnvIds hW (fun id hid => ?_) o.op).symm
  exact(qjR l (fun p hp e=>hl p hp (by rw[e];exact hid)) h).symm
 unfold nfg
 rw[hg,h1,h2]
end
def reads (o:Oper):Bool :=
 match o.op with
 | .store .. => false
 | .convert s t _=>match Nat.beq s t with
   | true=>false
   | false=>true
 | .call c=>match c.callee with
   | .builtin .append=>false
   | .builtin .copy=>false
   | _=>true
 | _=>true
def bare (o:Oper):Bool :=
 match o.op with
 | .move _ | .assign _ | .binOp .. | .unOp .. | .extract .. | .fieldAddr .. | .indexAddr .. | .pick .. => true
 | _=>false
def qhc (o:Oper):Bool :=
 match o.op with
 | .store .. => true
 | _=>false
theorem qoG {E:Env} {ts:List SVal} {h:Heap} {o:Oper} (hr:reads o=true) {all:List Oper} {base i:Nat} {K:Kt}:wrT E all base i o K ts h (qd E ts h o.op)->False:=by
 unfold reads at hr
 intro hw
 generalize hop:o.op=op at hr hw
 generalize hs:qd E ts h op=out at hw
 cases op<;>simp only[qd]at hs<;>simp only[Bool.false_eq_true]at hr
 case call c =>
  split at hs
  ·split at hs<;>(try unfold lenS at hs)<;>(try unfold capS at hs)<;>(try unfold mm at hs)<;>(repeat' split at hs)<;>subst hs<;>first|exact hw|(simp_all;done)
  ·unfold extS at hs
   repeat' split at hs
   all_goals (subst hs;exact hw)
  ·subst hs;exact hw
 case load => repeat' split at hs
              all_goals first|(subst hs;exact hw)|(unfold rd at hs;(repeat' split at hs);all_goals (subst hs;exact hw))
 case convert s t x =>
  cases hb:Nat.beq s t with
  | true=>rw[hb]at hr;cases hr
  | false =>
    rw[hb]at hs
    repeat' split at hs
    all_goals first
      | (subst hs;exact hw)
      | contradiction
 case binOp => unfold binS qcv at hs;repeat' split at hs
               all_goals (subst hs;exact hw)
 case slice => unfold qb6 at hs;repeat' split at hs
               all_goals (subst hs;exact hw)
 case indexAddr => unfold qb5 qag at hs;repeat' split at hs
                   all_goals (subst hs;exact hw)
 case index => unfold qag at hs;repeat' split at hs
               all_goals (subst hs;exact hw)
 all_goals first
  | (subst hs;exact hw)
  | (repeat' split at hs
     all_goals (subst hs;exact hw))
end Go.Sx
end
section
namespace Go.Sx
section
variable {E:Env} {all:List Oper} {base:Nat} (hE:EnvIds' E)
def qdv (all:List Oper) (x y:Oper):Bool :=
 x.apart all.toArray y && ((reads x && reads y) || (bare x && qhc y))
def qdw (all:List Oper) (t:Nat):Bool:=all.all fun o=>match o.dst with
 | some d => !Nat.beq d t
 | none=>true
def dynB (all:List Oper) (ts:List SVal) (x y:Oper):Bool :=
 x.apart all.toArray y && match x.op,y.op with
  | .load _ (.tmp a),.store _ (.tmp b) _=>(qdw all a && qdw all b) && match getT ts a,getT ts b with
    | .ptr i _,.ptr j _ => !Nat.beq i j
    | _,_=>false
  | _,_=>false
def qcD (all:List Oper) (ts:List SVal) (x y:Oper):Bool:=qdv all x y || dynB all ts x y
theorem qdx {i:Nat} {o:Oper} {K:Kt} {ts:List SVal} {h:Heap} (ho:all[i]?=some o) (hr:reads o=true) (hT:T E all base i K ts h) :
  ∃ N,nfg E all base i o ts h=some N/\N.pre/\(∃ x,N.post x) /\ ∀ x,N.post x->K (putD ts o.dst (N.v x)) (qC (N.l x) h):=by
 unfold T at hT
 simp only[ho]at hT
 split at hT
 ·rename_i N hN
  exact⟨N,hN,hT⟩
 ·split at hT
  ·exact(qoG hr hT).elim
  ·exact hT.elim
theorem T_of {i:Nat} {o:Oper} {K:Kt} {ts:List SVal} {h:Heap} {N:NF} (ho:all[i]?=some o) (hN:nfg E all base i o ts h=some N) (h1:N.pre) (h2 : ∃ x,N.post x)
  (h3 : ∀ x,N.post x->K (putD ts o.dst (N.v x)) (qC (N.l x) h)):T E all base i K ts h:=by
 unfold T
 simp only[ho,hN]
 exact⟨h1,h2,h3⟩
include hE
omit hE in
theorem qjU {o:Oper} (hb:bare o=true) {b:Nat} {ts:List SVal} {h:Heap} {N:NF} (hn:nf E b (qd E ts h o.op)=some N) :
  (∀ x,N.l x=[]) /\ ∀ h',qd E ts h' o.op=qd E ts h o.op:=by
 unfold bare at hb
 generalize o.op=op at hb hn
 have key : ∀ out,(out = .bad\/(∃ v,out = .set v)\/(∃ p v,out = .setp p v) \/ ∃ p,out = .any p)->nf E b out=some N -> ∀ x,N.l x=[]:=by
  rintro out (rfl|⟨v,rfl⟩|⟨p,v,rfl⟩|⟨p,rfl⟩) hn x<;>simp only[nf]at hn<;>cases hn<;>rfl
 have cls : ∀ out,qd E ts h op=out->(out = .bad\/(∃ v,out = .set v)\/(∃ p v,out = .setp p v) \/ ∃ p,out = .any p):=by
  intro out hs
  cases op<;>simp only[Bool.false_eq_true]at hb<;>simp only[qd]at hs
  case binOp=>unfold binS qcv at hs;(repeat' split at hs);all_goals (subst hs;first|(simp;done)|exact .inr (.inr (.inr ⟨_,rfl⟩)))
  case indexAddr=>unfold qb5 qag at hs;(repeat' split at hs);all_goals (subst hs;simp)
  all_goals first
   | (subst hs;simp;done)
   | ((repeat' split at hs)
      all_goals (subst hs;simp))
 refine⟨key _ (cls _ rfl) hn,fun h' => ?_⟩
 cases op<;>simp only[Bool.false_eq_true]at hb<;>rfl
theorem comm {U:Top} {r j:Nat} {o p:Oper} {K:Kt} {ts:List SVal} {h:Heap} (hW:WF E U ts h) (hr:all[r]?=some o) (hj:all[j]?=some p) (hs:qdv all o p=true) (hne:r ≠ j)
  (fr : ∀ id,own base r id -> ¬ U id) (fj : ∀ id,own base j id -> ¬ U id) (hT:T E all base r (T E all base j K) ts h):T E all base j (T E all base r K) ts h:=by
 unfold qdv at hs
 simp only[Bool.and_eq_true,Bool.or_eq_true]at hs
 obtain⟨hap,hs⟩:=hs
 obtain⟨a1,a2,a3⟩:=Oper.apart_spec hap
 have hro:reads o=true:=by
  rcases hs with hs|hs
  ·exact hs.1
  ·have:=hs.1
   unfold bare at this
   unfold reads
   split at this<;>simp_all
 obtain⟨N,hN,p1,p2,p3⟩:=qdx hr hro hT
 have kN:=qhb hE hW hN
 obtain⟨x0,hx0⟩:=p2
 rcases hs with⟨_,hrp⟩|⟨hb,hst⟩
 ·obtain⟨M0,hM0,_⟩:=qdx hj hrp (p3 x0 hx0)
  have stab : ∀ x,nfg E all base j p (putD ts o.dst (N.v x)) (qC (N.l x) h)=nfg E all base j p ts h:=fun x =>
   qjT hE hW a1 fun q hq hu=>fr _ (kN.l x q hq).1 hu
  rw[stab x0]at hM0
  have kM:=qhb hE hW hM0
  have nex : ∀ x,N.post x->M0.pre/\(∃ y,M0.post y) /\ ∀ y,M0.post y->K (putD (putD ts o.dst (N.v x)) p.dst (M0.v y)) (qC (M0.l y) (qC (N.l x) h)):=by
   intro x hx
   obtain⟨M,hM,q1,q2,q3⟩:=qdx hj hrp (p3 x hx)
   rw[stab x,hM0]at hM
   cases hM
   exact⟨q1,q2,q3⟩
  obtain⟨q1,q2,_⟩:=nex x0 hx0
  refine T_of hj hM0 q1 q2 fun y hy => ?_
  have stab2:nfg E all base r o (putD ts p.dst (M0.v y)) (qC (M0.l y) h)=nfg E all base r o ts h :=
   qjT hE hW a3 fun q hq hu=>fj _ (kM.l y q hq).1 hu
  refine T_of hr (stab2.trans hN) p1 ⟨x0,hx0⟩ fun x hx => ?_
  have:=(nex x hx).2.2 y hy
  rw[qha a2,qjP _ _ (fun q hq q' hq' e=>by
   have e1:=(kM.l y q hq).1
   have e2:=(kN.l x q' hq').1
   rw[e]at e1
   have:r ≠ j:=hne
   omega)]at this
  exact this
 ·
  have hNl : ∀ x,N.l x=[]:=by
   have hN':=hN
   unfold nfg at hN'
   split at hN'<;>try (cases hN';done)
   ·cases hN';exact fun _=>rfl
   ·split at hN'<;>try (cases hN';done)
    rename_i M hM
    cases hN'
    exact(qjU hb hM).1
  have hgp : ∀ v,qP all (putD ts o.dst v) p=qP all ts p:=fun v=>qdu fun g w hg oj ho t ht e=>by
   refine a1 t e ?_
   simp[Oper.looksAt,hg,ho,ht]
  have hgo : ∀ v,qP all (putD ts p.dst v) o=qP all ts o:=fun v=>qdu fun g w hg oj ho t ht e=>by
   refine a3 t e ?_
   simp[Oper.looksAt,hg,ho,ht]
  have hstep : ∀ v,qd E (putD ts o.dst v) h p.op=qd E ts h p.op:=fun v=>qdt _ fun x hx=>qds fun t ht=>by
   subst ht
   refine qbl fun e=>a1 t e ?_
   simp only[Oper.looksAt,List.mem_append,List.mem_filterMap]
   exact .inl ⟨.tmp t,by simpa using hx,rfl⟩
  have hNst : ∀ (v:SVal) (h':Heap),nfg E all base r o (putD ts p.dst v) h'=some N:=by
   intro v h'
   have e1:qd E (putD ts p.dst v) h' o.op=qd E ts h' o.op:=qdt _ fun x hx=>qds fun t ht=>by
    subst ht
    refine qbl fun e=>a3 t e ?_
    simp only[Oper.looksAt,List.mem_append,List.mem_filterMap]
    exact .inl ⟨.tmp t,by simpa using hx,rfl⟩
   rw[<- hN]
   have hN':=hN
   unfold nfg at hN' ⊢
   rw[hgo v]
   split at hN'<;>try (cases hN';done)
   ·rfl
   ·rename_i hgt
    split at hN'<;>try (cases hN';done)
    rename_i M hM
    simp only[e1,(qjU hb hM).2 h',hM]
  have hx:=p3 x0 hx0
  have main : ∀ x,N.post x->T E all base j K (putD ts o.dst (N.v x)) h:=fun x hx=>by
   have:=p3 x hx
   rwa[hNl x]at this
  unfold T at main ⊢
  simp only[hj]at main ⊢
  have hnfp : ∀ v,nfg E all base j p (putD ts o.dst v) h=nfg E all base j p ts h:=by
   intro v
   unfold nfg
   rw[hgp v,hstep v]
  simp only[hnfp,hgp,hstep]at main
  generalize hnp:nfg E all base j p ts h=np at main ⊢
  have fin : ∀ (u:SVal) (h':Heap),(∀ x,N.post x->K (putD (putD ts o.dst (N.v x)) p.dst u) h')->T E all base r K (putD ts p.dst u) h':=by
   intro u h' hK
   refine T_of hr (hNst u h') p1 ⟨x0,hx0⟩ fun x hx => ?_
   rw[hNl x,qha fun t ht e=>a2 t e ht]
   exact hK x hx
  cases np with
  | some M =>
    have hM:M.l=fun _=>[]:=by
      unfold nfg at hnp
      split at hnp<;>try (cases hnp;done)
      · cases hnp;rfl
      · split at hnp<;>try (cases hnp;done)
        rename_i M' hM'
        exfalso
        unfold qhc at hst
        split at hst<;>try (cases hst;done)
        rename_i t x y hop
        rw[hop]at hM'
        simp only[qd]at hM'
        repeat' split at hM'
        all_goals first
          | (cases hM';done)
          | (unfold wr at hM'
             (repeat' split at hM')
             all_goals cases hM')
    simp only at main ⊢
    refine⟨(main x0 hx0).1,(main x0 hx0).2.1,fun y hy => ?_⟩
    rw[hM]
    exact fin _ _ fun x hx=>by
      have:=(main x hx).2.2 y hy
      rwa[hM]at this
  | none =>
    simp only at main ⊢
    cases hgg:qP all ts p with
    | none=>simp only[hgg]at main;exact(main x0 hx0).elim
    | some b =>
      cases b with
      | false=>simp only[hgg]at main;exact(main x0 hx0).elim
      | true =>
        simp only[hgg]at main ⊢
        generalize hso:qd E ts h p.op=out at main ⊢
        have hcl:(∃ id c,out = .upd id c)\/(∃ q id c,out = .updp q id c)\/(∀ K:Kt,∀ ts h,¬ wrT E all base j p K ts h out):=by
          unfold qhc at hst
          split at hst<;>try (cases hst;done)
          rename_i t x y hop
          rw[hop]at hso
          simp only[qd]at hso
          repeat' split at hso
          all_goals first
            | (subst hso;exact .inr (.inr fun _ _ _ h=>h))
            | (unfold wr at hso
               (repeat' split at hso)
               all_goals (subst hso;first|exact .inl ⟨_,_,rfl⟩|exact .inr (.inl ⟨_,_,_,rfl⟩)|exact .inr (.inr fun _ _ _ h=>h)))
        rcases hcl with⟨id,c,rfl⟩|⟨q,id,c,rfl⟩|hno
        · exact fin _ _ fun x hx=>main x hx
        · exact⟨(main x0 hx0).1,fin _ _ fun x hx=>(main x hx).2⟩
        · exact(hno _ _ _ (main x0 hx0)).elim
omit hE in
theorem qoH {t:Nat} (h:qdw all t=true) {i:Nat} {o:Oper} (ho:all[i]?=some o):o.dst ≠ some t:=by
 unfold qdw at h
 rw[List.all_eq_true]at h
 have:=h o (List.mem_of_getElem? ho)
 intro e
 rw[e]at this
 simp at this
def Keep (all:List Oper) (ts0 ts:List SVal):Prop :=∀ t,qdw all t=true->getT ts t=getT ts0 t
omit hE in
theorem Keep.put {ts0 ts:List SVal} (hk:Keep all ts0 ts) {i:Nat} {o:Oper} (ho:all[i]?=some o) (v:SVal):Keep all ts0 (putD ts o.dst v):=fun t ht=>by
 rw[qbl (qoH ht ho)]
 exact hk t ht
omit hE in
theorem qhd {i j:Nat} (hne:i ≠ j) (c:SVal) : ∀ h:Heap,look (updH h j c) i=look h i
 | []=>rfl
 | (k,v) :: h=>by
   have ih:=qhd hne c h
   simp only[updH]
   cases hk:Nat.beq k j with
   | true =>
     have e:=Nat.eq_of_beq_eq_true hk
     have hki:Nat.beq k i=false:=by
       cases hb:Nat.beq k i with
       | false=>rfl
       | true=>exact absurd (Nat.eq_of_beq_eq_true hb) (by omega)
     simp only[look,hki]
   | false =>
     simp only[look,ih]
omit hE in
theorem qoI {ts0:List SVal} {r j:Nat} {o p:Oper} {K:Kt} {ts:List SVal} {h:Heap} (hr:all[r]?=some o) (hj:all[j]?=some p) (hd:dynB all ts0 o p=true)
  (hk:Keep all ts0 ts) (hT:T E all base r (T E all base j K) ts h):T E all base j (T E all base r K) ts h:=by
 unfold dynB at hd
 simp only[Bool.and_eq_true]at hd
 obtain⟨hap,hd⟩:=hd
 obtain⟨a1,a2,a3⟩:=Oper.apart_spec hap
 split at hd<;>try (cases hd;done)
 rename_i t a t2 b y hoo hpo
 simp only[Bool.and_eq_true]at hd
 obtain⟨⟨ha,hb⟩,hd⟩:=hd
 rw[<- hk a ha,<- hk b hb]at hd
 split at hd<;>try (cases hd;done)
 rename_i i1 f1 i2 f2 e1 e2
 have hne:i1 ≠ i2:=fun e=>by rw[e]at hd;simp at hd
 have hro:reads o=true:=by unfold reads;rw[hoo]
 obtain⟨N,hN,p1,p2,p3⟩:=qdx hr hro hT
 obtain⟨x0,hx0⟩:=p2
 have hload : ∀ h',look h' i1=look h i1->qd E ts h' o.op=qd E ts h o.op:=by
  intro h' hl
  rw[hoo]
  simp only[qd,evl,e1,hl]
 have hNl : ∀ x,N.l x=[]:=by
  have hN':=hN
  unfold nfg at hN'
  split at hN'<;>try (cases hN';done)
  ·cases hN';exact fun _=>rfl
  ·split at hN'<;>try (cases hN';done)
   rename_i M hM
   cases hN'
   show ∀ x,M.l x=[]
   rw[hoo]at hM
   simp only[qd,evl,e1]at hM
   split at hM
   ·unfold rd at hM
    (repeat' split at hM)
    all_goals first
     | (simp only[nf]at hM;cases hM;exact fun _=>rfl)
     | (simp only[nf]at hM;cases hM)
   ·simp only[nf]at hM;cases hM
 have hgp : ∀ v,qP all (putD ts o.dst v) p=qP all ts p:=fun v=>qdu fun g w hg oj ho t ht e=>by
  refine a1 t e ?_
  simp[Oper.looksAt,hg,ho,ht]
 have hgo : ∀ v,qP all (putD ts p.dst v) o=qP all ts o:=fun v=>qdu fun g w hg oj ho t ht e=>by
  refine a3 t e ?_
  simp[Oper.looksAt,hg,ho,ht]
 have hstep : ∀ v,qd E (putD ts o.dst v) h p.op=qd E ts h p.op:=fun v=>qdt _ fun x hx=>qds fun t ht=>by
  subst ht
  refine qbl fun e=>a1 t e ?_
  simp only[Oper.looksAt,List.mem_append,List.mem_filterMap]
  exact .inl ⟨.tmp t,by simpa using hx,rfl⟩
 have hNst : ∀ (v:SVal) (h':Heap),look h' i1=look h i1->nfg E all base r o (putD ts p.dst v) h'=some N:=by
  intro v h' hl
  have e1:qd E (putD ts p.dst v) h' o.op=qd E ts h' o.op:=qdt _ fun x hx=>qds fun t ht=>by
   subst ht
   refine qbl fun e=>a3 t e ?_
   simp only[Oper.looksAt,List.mem_append,List.mem_filterMap]
   exact .inl ⟨.tmp t,by simpa using hx,rfl⟩
  rw[<- hN]
  have hN':=hN
  unfold nfg at hN' ⊢
  rw[hgo v]
  split at hN'<;>try (cases hN';done)
  ·rfl
  ·rename_i hgt
   split at hN'<;>try (cases hN';done)
   rename_i M hM
   simp only[e1,hload h' hl,hM]
 have main : ∀ x,N.post x->T E all base j K (putD ts o.dst (N.v x)) h:=fun x hx=>by
  have:=p3 x hx
  rwa[hNl x]at this
 unfold T at main ⊢
 simp only[hj]at main ⊢
 have hnfp : ∀ v,nfg E all base j p (putD ts o.dst v) h=nfg E all base j p ts h:=by
  intro v
  unfold nfg
  rw[hgp v,hstep v]
 simp only[hnfp,hgp,hstep]at main
 generalize hnp:nfg E all base j p ts h=np at main ⊢
 have fin : ∀ (u:SVal) (h':Heap),look h' i1=look h i1->(∀ x,N.post x->K (putD (putD ts o.dst (N.v x)) p.dst u) h')->T E all base r K (putD ts p.dst u) h':=by
  intro u h' hl hK
  refine T_of hr (hNst u h' hl) p1 ⟨x0,hx0⟩ fun x hx => ?_
  rw[hNl x,qha fun t ht e=>a2 t e ht]
  exact hK x hx
 cases np with
 | some M =>
   have hM:M.l=fun _=>[]:=by
     unfold nfg at hnp
     split at hnp<;>try (cases hnp;done)
     · cases hnp;rfl
     · split at hnp<;>try (cases hnp;done)
       rename_i M' hM'
       exfalso
       rw[hpo]at hM'
       simp only[qd]at hM'
       repeat' split at hM'
       all_goals first
         | (cases hM';done)
         | (unfold wr at hM'
            (repeat' split at hM')
            all_goals cases hM')
   simp only at main ⊢
   refine⟨(main x0 hx0).1,(main x0 hx0).2.1,fun y hy => ?_⟩
   rw[hM]
   exact fin _ _ rfl fun x hx=>by
     have:=(main x hx).2.2 y hy
     rwa[hM]at this
 | none =>
   simp only at main ⊢
   cases hgg:qP all ts p with
   | none=>simp only[hgg]at main;exact(main x0 hx0).elim
   | some bb =>
     cases bb with
     | false=>simp only[hgg]at main;exact(main x0 hx0).elim
     | true =>
       simp only[hgg]at main ⊢
       generalize hso:qd E ts h p.op=out at main ⊢
       have hcl:(∃ c,out = .upd i2 c)\/(∃ q c,out = .updp q i2 c)\/(∀ K:Kt,∀ ts h,¬ wrT E all base j p K ts h out):=by
         rw[hpo]at hso
         simp only[qd,evl,e2]at hso
         split at hso
         · unfold wr at hso
           (repeat' split at hso)
           all_goals (subst hso;first|exact .inl ⟨_,rfl⟩|exact .inr (.inl ⟨_,_,rfl⟩)|exact .inr (.inr fun _ _ _ h=>h))
         · subst hso;exact .inr (.inr fun _ _ _ h=>h)
       rcases hcl with⟨c,rfl⟩|⟨q,c,rfl⟩|hno
       · exact fin _ _ (qhd hne c h) fun x hx=>main x hx
       · exact⟨(main x0 hx0).1,fin _ _ (qhd hne c h) fun x hx=>(main x hx).2⟩
       · exact(hno _ _ _ (main x0 hx0)).elim
theorem qoJ {ts0:List SVal} {U:Top} {i:Nat} {o:Oper} {K K':Kt} {ts:List SVal} {h:Heap} (hW:WF E U ts h) (hk:Keep all ts0 ts) (ho:all[i]?=some o) (hr:reads o=true) (hT:T E all base i K ts h)
  (hK : ∀ ts' h',WF E (both U (own base i)) ts' h'->Keep all ts0 ts'->K ts' h'->K' ts' h'):T E all base i K' ts h:=by
 obtain⟨N,hN,h1,h2,h3⟩:=qdx ho hr hT
 exact T_of ho hN h1 h2 fun x hx=>hK _ _ (hW.after (qhb hE hW hN) x) (hk.put ho _) (h3 x hx)
theorem qjV {ts0:List SVal} {j:Nat} {p:Oper} (hj:all[j]?=some p) (R2:List Nat) {K:Kt} : ∀ (R1:List Nat) {U:Top} {ts:List SVal} {h:Heap},WF E U ts h->Keep all ts0 ts ->
  (∀ r ∈ R1,r ≠ j /\ ∃ o,all[r]?=some o/\qcD all ts0 o p=true)->R1.Nodup->(∀ r ∈ j :: R1,∀ id,own base r id -> ¬ U id) ->
  qca E all base (R1++j :: R2) K ts h->T E all base j (qca E all base (R1++R2) K) ts h
 | [],U,ts,h,_,_,_,_,_,hT=>hT
 | r :: R1,U,ts,h,hW,hk,hs,hnd,hf,hT=>by
   obtain⟨hne,o,ho,hsw⟩:=hs r (List.mem_cons_self ..)
   have hro:reads o=true:=by
     have:=hsw
     simp only[qcD,qdv,dynB,Bool.and_eq_true,Bool.or_eq_true]at this
     rcases this with this|this
     · rcases this.2 with h2|h2
       · exact h2.1
       · have:=h2.1
         unfold bare at this
         unfold reads
         split at this<;>simp_all
     · have:=this.2
       split at this
       · rename_i e _
         unfold reads
         rw[e]
       · cases this
   have h1:T E all base r (T E all base j (qca E all base (R1++R2) K)) ts h:=by
     refine qoJ hE hW hk ho hro hT fun ts' h' hW' hk' hK => ?_
     refine qjV hj R2 R1 hW' hk' (fun q hq=>hs q (List.mem_cons_of_mem _ hq)) (List.nodup_cons.1 hnd).2 (fun q hq id hid => ?_) hK
     rintro (hu|hu)
     · refine hf q ?_ id hid hu
       rcases List.mem_cons.1 hq with rfl|hq
       · exact List.mem_cons_self ..
       · exact List.mem_cons_of_mem _ (List.mem_cons_of_mem _ hq)
     · have hqr:q ≠ r:=by
         rcases List.mem_cons.1 hq with rfl|hq
         · exact fun e=>hne e.symm
         · rintro rfl;exact(List.nodup_cons.1 hnd).1 hq
       unfold own at hid hu
       omega
   unfold qcD at hsw
   rcases Bool.or_eq_true _ _ ▸ hsw with hsw|hsw
   · exact comm hE hW ho hj hsw hne (hf r (List.mem_cons_of_mem _ (List.mem_cons_self ..))) (hf j (List.mem_cons_self ..)) h1
   · exact qoI ho hj hsw hk h1
end
def uni (xs s:List Nat):List Nat:=xs.foldl (fun s x=>if s.contains x then s else x :: s) s
def ancs:List Oper->List (List Nat)->List (List Nat)
 | [],acc=>acc
 | o :: r,acc=>ancs r (acc++[o.after.toList.foldl (fun s e=>if Region.binds .any e then uni (e.on :: acc.getD e.on []) s else s) []])
def qhe (all:List Oper):Bool:=(List.range all.length).all fun j=>match all[j]? with
 | some p=>p.after.toList.all fun e => !(Region.binds .any e) || Nat.blt e.on j
 | none=>true
def qcc (all:List Oper) (ts:List SVal):Bool :=
 let an:=ancs all []
 qhe all && (List.range all.length).all fun j=>(List.range j).all fun r=>(an.getD j []).contains r || match all[r]?,all[j]? with
  | some o,some p=>qcD all ts o p
  | _,_=>false
def retB (all:List Oper):Bool:=all.all fun o=>match o.op with
 | .load .. | .store .. | .move _ | .assign _ | .binOp .. | .pick .. => true
 | _=>false
def qhf (all:List Oper):Bool :=
 let an:=ancs all []
 qhe all && (List.range all.length).all fun j=>(List.range j).all fun r=>(an.getD j []).contains r || match all[r]?,all[j]? with
  | some o,some p=>qdv all o p
  | _,_=>false
theorem qjW {x:Nat} : ∀ (xs s:List Nat),x ∈ uni xs s->x ∈ xs\/x ∈ s
 | [],s,h =>.inr h
 | y :: xs,s,h=>by
   simp only[uni,List.foldl_cons]at h
   rcases qjW xs _ h with h|h
   · exact .inl (List.mem_cons_of_mem _ h)
   · split at h
     · exact .inr h
     · rcases List.mem_cons.1 h with rfl|h
       · exact .inl (List.mem_cons_self ..)
       · exact .inr h
theorem qjX {r:Nat} {acc:List (List Nat)} : ∀ (l:List Edge) (s:List Nat),r ∈ l.foldl (fun s e=>if Region.binds .any e then uni (e.on :: acc.getD e.on []) s else s) s ->
  r ∈ s \/ ∃ e ∈ l,Region.binds .any e=true/\(r=e.on\/r ∈ acc.getD e.on [])
 | [],s,h =>.inl h
 | e :: l,s,h=>by
   simp only[List.foldl_cons]at h
   rcases qjX l _ h with h|⟨e',he,hb,hr⟩
   · split at h
     · rename_i hb
       rcases qjW _ _ h with h|h
       · rcases List.mem_cons.1 h with h|h
         · exact .inr ⟨e,List.mem_cons_self ..,hb,.inl h⟩
         · exact .inr ⟨e,List.mem_cons_self ..,hb,.inr h⟩
       · exact .inl h
     · exact .inl h
   · exact .inr ⟨e',List.mem_cons_of_mem _ he,hb,hr⟩
def qhg (all:List Oper) (acc:List (List Nat)):Prop :=
 ∀ m,m<acc.length -> ∀ r ∈ acc.getD m [],∃ o,all[m]?=some o /\ ∃ e ∈ o.after.toList,Region.binds .any e=true/\(r=e.on\/(e.on<m/\r ∈ acc.getD e.on []))
theorem qjY {all:List Oper} : ∀ (l done:List Oper) (acc:List (List Nat)),all=done++l->acc.length=done.length->qhg all acc->qhg all (ancs l acc)/\(ancs l acc).length=all.length
 | [],done,acc,he,hl,h=>⟨h,by simp[ancs,he,hl]⟩
 | o :: l,done,acc,he,hl,h=>by
   simp only[ancs]
   refine qjY l (done++[o]) _ (by simp[he]) (by simp[hl]) ?_
   intro m hm r hr
   have gl : ∀ k,k<acc.length -> ∀ z,(acc++[z]).getD k []=acc.getD k []:=fun k hk z=>by simp[List.getD,List.getElem?_append_left hk]
   by_cases hma:m<acc.length
   · rw[gl m hma]at hr
     obtain⟨q,hq,e,he',hb,hr'⟩:=h m hma r hr
     refine⟨q,hq,e,he',hb,?_⟩
     rcases hr' with hr'|⟨h1,h2⟩
     · exact .inl hr'
     · exact .inr ⟨h1,by rw[gl _ (by omega)];exact h2⟩
   · have hme:m=acc.length:=by simp at hm;omega
     subst hme
     have:(acc++[o.after.toList.foldl (fun s e=>if Region.binds .any e then uni (e.on :: acc.getD e.on []) s else s) []]).getD acc.length []=o.after.toList.foldl (fun s e=>if Region.binds .any e then uni (e.on :: acc.getD e.on []) s else s) []:=by
       simp[List.getD]
     rw[this]at hr
     refine⟨o,by rw[he,hl];simp,?_⟩
     rcases qjX _ _ hr with hr|⟨e,he',hb,hr⟩
     · cases hr
     · refine⟨e,he',hb,?_⟩
       rcases hr with hr|hr
       · exact .inl hr
       · by_cases hel:e.on<acc.length
         · exact .inr ⟨hel,by rw[gl _ hel];exact hr⟩
         · simp[List.getD,List.getElem?_eq_none (show acc.length<=e.on by omega)]at hr
def Down (all:List Oper) (listed:Array Bool):Prop :=
 ∀ m o,listed.getD m false=true->all[m]?=some o -> ∀ e ∈ o.after.toList,Region.binds .any e=true->listed.getD e.on false=true
theorem qoK {all:List Oper} {acc:List (List Nat)} (h:qhg all acc) {listed:Array Bool} (hd:Down all listed) {r:Nat} : ∀ (m:Nat),m<acc.length->r ∈ acc.getD m [] ->
  (∀ o,all[m]?=some o -> ∀ e ∈ o.after.toList,Region.binds .any e=true->listed.getD e.on false=true)->listed.getD r false=true:=by
 intro m
 induction m using Nat.strongRecOn with
 | _ m ih =>
   intro hm hr ha
   obtain⟨o,ho,e,he,hb,hr'⟩:=h m hm r hr
   have hl:=ha o ho e he hb
   rcases hr' with rfl|⟨hlt,hr'⟩
   · exact hl
   · exact ih e.on hlt (by omega) hr' fun o' ho'=>hd _ _ hl ho'
theorem qoL {all:List Oper} {listed:Array Bool} {j:Nat} (hj:j ∈ Region.ready .any all.toArray listed):j<all.length/\listed.getD j true=false /\
  ∃ p,all[j]?=some p /\ ∀ e ∈ p.after.toList,Region.binds .any e=true->listed.getD e.on false=true:=by
 unfold Region.ready at hj
 rw[List.mem_filter]at hj
 obtain⟨h1,h2⟩:=hj
 have h1:j<all.length:=by simpa using h1
 simp only[Bool.and_eq_true]at h2
 obtain⟨h2,h3⟩:=h2
 refine⟨h1,by simpa using h2,all[j],by simp,fun e he hb => ?_⟩
 rw[show(all.toArray)[j]?=some all[j]by simp[h1]]at h3
 simp only[Option.map_some,Option.getD_some]at h3
 rw[<- Array.all_toList,List.all_eq_true]at h3
 have:=h3 e he
 simpa[hb]using this
end Go.Sx
end
section
namespace Go.Sx
section
variable {P:Program} {E:Env} (hE:EnvOk P E) {ρ:Rho} {H:Snap} {ts:List SVal} {h:Heap} {top:Top} {a:Act} {w:World} {o:Oper}
include hE
theorem qhh (R:Rel E ρ H ts h top a w) {es:Nat} {s:SVal} {v:Value} {id:Option Nat} {k:Option IntKind} {xs:List Int} {n:SN} (hd:Den ρ H s v)
  (ha:appS E h es s=some (id,k,xs,n)) (hp:aPre h es s) : ∃ ad cap,v = .slice ad n.v cap/\n.v<=cap/\xs.length=n.v*es /\
   (∀ (j:Nat) z,xs[j]?=some z -> ∃ kk b o,k=some kk/\ad=some ⟨b,o,none⟩/\w.cell? ⟨b,o+j,none⟩=some (.int kk z)) /\
   (k=none->xs=[]) /\
   (∀ i,id=some i -> ∃ off len cp,s = .sl i es off len cp/\cp.v=cap)/\(qbh h s=true->id=none->v = .slice none 0 0/\xs=[]):=by
 have sub_e : ∀ xs o n,E.Ω.sub xs o n=(xs.drop o).take n:=fun xs o n=>by rw[hE.om];rfl
 have own : ∀ (i:Nat) (off len cap:SN) (k':IntKind) (ys xs':List Int),s = .sl i es off len cap->(look h i = .seq k' ys\/look h i = .lck k' ys\/look h i = .row k' ys.length ys)->off.v+len.v*es<=ys.length ->
   xs'=(ys.drop off.v).take (len.v*es) ->
   ∃ ad cp,v = .slice ad len.v cp/\len.v<=cp/\xs'.length=len.v*es /\
   (∀ (j:Nat) z,xs'[j]?=some z -> ∃ kk b o,some k'=some kk/\ad=some ⟨b,o,none⟩/\w.cell? ⟨b,o+j,none⟩=some (.int kk z))/\cap.v=cp:=by
  rintro i off len cap k' ys xs' rfl hl hin hx
  simp only[Den,Rep,List.cons.injEq,and_true]at hd
  obtain⟨ad,rfl,hle,hroom,hgh,hre⟩:=hd
  have hj:look h i ≠ .junk:=by rcases hl with hl|hl|hl<;>rw[hl]<;>simp
  refine⟨ad,cap.v,rfl,hle,by rw[hx];simp;omega,fun j z hz => ?_,rfl⟩
  have hjl:j<len.v*es:=by
   have:=(List.getElem?_eq_some_iff.1 hz).1
   rw[hx]at this
   simp at this
   omega
  rcases R.lies hj with hg|⟨arr,te,vs,li⟩
  ·have:=(hgh hg.1).2
   have:len.v=0:=by omega
   rw[this]at hjl
   omega
  ·obtain⟨o',rfl,ho'⟩:=hre li.real
   have hvs:vs=ys.map (Value.int k'):=by
    have:=li.rep
    rcases hl with hl|hl|hl<;>rw[hl]at this<;>simp only[Rep]at this
    ·exact this
    ·exact this
    ·exact this.2
   have hy:ys[off.v+j]?=some z:=by
    rw[hx,List.getElem?_take,if_pos hjl,List.getElem?_drop]at hz
    exact hz
   have hc0:cap.v ≠ 0:=by
    intro e
    have:len.v=0:=by omega
    rw[this]at hjl
    omega
   refine⟨k',_,_,rfl,rfl,?_⟩
   rw[ho' hc0,Nat.add_assoc]
   exact li.cell _ _ (by rw[hvs,List.getElem?_map,hy];rfl)
 have m_v : ∀ n:SN,(n.mulc E.Ω es).v=n.v*es:=fun n=>by rw[hE.om];exact SN.mulc_v es n
 unfold appS at ha
 split at ha
 ·cases ha
  simp only[Den,Rep,List.cons.injEq,and_true]at hd
  refine⟨none,0,hd.1,Nat.le_refl _,by simp[SN.v],fun j z hz=>by simp at hz,fun _=>rfl,nofun,fun _ _=>⟨hd.1,rfl⟩⟩
 ·rename_i i es' off len cap
  split at ha<;>try (cases ha;done)
  ·rename_i k' ys hb hl
   have hb:=Nat.eq_of_beq_eq_true hb
   subst hb
   cases ha
   simp only[aPre,hl]at hp
   obtain⟨ad,cp,h1,h2,h3,h4,h5⟩:=own i off n cap k' ys (E.Ω.sub ys off.v (n.mulc E.Ω es).v) rfl (.inl hl) hp (by rw[sub_e,m_v])
   exact⟨ad,cp,h1,h2,h3,h4,nofun,(fun i' hi=>by cases hi;exact⟨_,_,_,rfl,h5⟩),nofun⟩
  ·rename_i k' ys hb hl
   have hb:=Nat.eq_of_beq_eq_true hb
   subst hb
   cases ha
   simp only[aPre,hl]at hp
   obtain⟨ad,cp,h1,h2,h3,h4,h5⟩:=own i off n cap k' ys (E.Ω.sub ys off.v (n.mulc E.Ω es).v) rfl (.inr (.inl hl)) hp (by rw[sub_e,m_v])
   exact⟨ad,cp,h1,h2,h3,h4,nofun,(fun i' hi=>by cases hi;exact⟨_,_,_,rfl,h5⟩),nofun⟩
  ·rename_i k' n' ys hb hl
   have hb:=Nat.eq_of_beq_eq_true hb
   subst hb
   simp only[aPre,hl]at hp
   have hjy:ys.length=n':=by
    have hj:look h i ≠ .junk:=by rw[hl];simp
    rcases R.lies hj with hg|⟨arr,te,vs,li⟩
    ·obtain⟨_,_,k2,hk⟩:=hg
     rw[hl]at hk;cases k2<;>cases hk
    ·have:=li.rep
     rw[hl]at this
     simp only[Rep]at this
     exact this.1
   rw[<- hjy]at hl hp
   split at ha
   ·rename_i hbb
    have hbb:=Nat.eq_of_beq_eq_true hbb
    cases ha
    rw[m_v,<- hjy]at hbb
    obtain⟨ad,cp,h1,h2,h3,h4,h5⟩:=own i _ _ _ k' _ _ rfl (.inr (.inr hl)) hp (by rw[show(SN.l 0).v=0 from rfl,List.drop_zero,List.take_of_length_le (by omega)])
    exact⟨ad,cp,h1,h2,h3,h4,nofun,(fun i' hi=>by cases hi;exact⟨_,_,_,rfl,h5⟩),nofun⟩
   ·cases ha
    rename_i o1 o2 b1 x1
    obtain⟨ad,cp,h1,h2,h3,h4,h5⟩:=own i o1 n cap k' ys (E.Ω.sub ys o1.v (n.mulc E.Ω es).v) rfl (.inr (.inr hl)) hp (by rw[sub_e,m_v])
    exact⟨ad,cp,h1,h2,h3,h4,nofun,(fun i' hi=>by cases hi;exact⟨_,_,_,rfl,h5⟩),nofun⟩
 ·split at ha<;>try (cases ha;done)
  cases ha
  rename_i xs'
  simp only[Den,Rep,List.cons.injEq,and_true]at hd
  obtain⟨v',e,hro⟩:=hd
  subst e
  obtain⟨ad,c,e1,e2,e3⟩:=hro.reads R.agree
  refine⟨ad,c,?_,?_,?_,fun j z hz => ?_,nofun,nofun,nofun⟩
  ·rw[e1,hE.om];rfl
  ·rw[hE.om];exact e2
  ·rw[hE.om];simp[Om.real,SN.v]
  ·obtain⟨b,o,f1,cs,te,fr,f2,f3⟩:=e3 j z hz
   exact⟨_,b,o,rfl,f1,by simp[World.cell?,f2,f3]⟩
 ·cases ha
structure AppRes (E:Env) (U:Top) (ρ:Rho) (H:Snap) (w:World) (id:Option Nat) (es:Nat) (n:SN) (c:SVal) (v:Value) (w':World) (pos:Pos) (cap:Nat):Prop where
 same:Same w w'
 le:n.v<=cap
 den : ∀ ρ' new,ρ' new=pos->Den ρ' H (.sl new es (.l 0) n (.s cap)) v
 lies : ∀ ρ' new,ρ' new=pos->(∀ i,U i->ρ' i=ρ i)->qat ρ' new c \/ ∃ arr t vs,Lies ρ' H w' new c arr t vs
 keep : ∀ b,b<w.heap.size->(∀ i,id=some i->(ρ i).g=false->b ≠ (ρ i).b)->w'.heap[b]?=w.heap[b]?
 place:pos.g=false->pos.b=w.heap.size \/ ∃ i,id=some i/\(ρ i).g=false/\pos.b=(ρ i).b
theorem qjZ (R:Rel E ρ H ts h top a w) {es bytes:Nat} {s c:SVal} (hH : ∀ b,w.heap.size<=b->H b=none) {id:Option Nat} {xs ys:List Value} {n1 n2:SN}
  {t u e f:TypeId} {te:TI} {ad:Array TypeId} {ad1 ad2:Option Addr} {cap1 cap2:Nat} (hte:TyOk P e te) (hes:es=te.size) (hby:bytes=te.bytes) (hb0:0<te.bytes) (hu:P.underlying t=some (.slice e)) (huf:P.underlying u=some (.slice f))
  (hrun:(execOp a.eval o).run P w=((Builtin.append_ (#[t,u]++ad) o.type #[.slice ad1 n1.v cap1,.slice ad2 n2.v cap2]).run P w).andThen (fun v w' =>.ok (.value v) w')) (hds:Den ρ H s (.slice ad1 n1.v cap1))
  (hle1:n1.v<=cap1) (hl1:xs.length=n1.v*es) (hc1 : ∀ (j:Nat) z,xs[j]?=some z -> ∃ b o,ad1=some ⟨b,o,none⟩/\w.cell? ⟨b,o+j,none⟩=some z)
  (hid1 : ∀ i,id=some i -> ∃ off len cp,s = .sl i es off len cp/\cp.v=cap1) (hnil:id=none->(.slice ad1 n1.v cap1:Value) = .slice none 0 0/\xs=[])
  (hle2:n2.v<=cap2) (hl2:ys.length=n2.v*es) (hc2 : ∀ (j:Nat) z,ys[j]?=some z -> ∃ b o,ad2=some ⟨b,o,none⟩/\w.cell? ⟨b,o+j,none⟩=some z)
  (hon : ∀ v ∈ ys,qaI v) (hb:(n1.v+n2.v)*bytes<=140737488355328) (hjk : ∀ i,id=some i->look h i ≠ .junk/\(qah (look h i)=false\/cap1<n1.v+n2.v))
  (hrep : ∀ ρ',(∀ i,top i->ρ' i=ρ i)->Rep ρ' H c (xs++ys)) (hgh:xs++ys=[] -> ∃ k,c=gho k) (hcl:qah c=false) :
  ∃ v w' pos cap,(execOp a.eval o).run P w = .ok (.value v) w'/\AppRes E top ρ H w id es (n1.add E.Ω n2) c v w' pos cap:=by
 have hpos:=hte.pos
 rw[<- hes]at hpos
 have hn:(n1.add E.Ω n2).v=n1.v+n2.v:=by rw[hE.om];exact SN.add_v _ _
 have rd : ∀ {ad:Option Addr} {n cap:Nat} {zs:List Value},(∀ (j:Nat) z,zs[j]?=some z -> ∃ b o,ad=some ⟨b,o,none⟩/\w.cell? ⟨b,o+j,none⟩=some z) ->
   zs.length=n*es -> ∀ w',(∀ ad,w'.cell? ad=w.cell? ad)->(Builtin.firstCells es n (.slice ad n cap)).run P w' = .ok zs.toArray w':=by
  intro ad n cap zs hc hl w' hw
  cases ad with
  | none =>
    have:zs=[]:=by
      cases zs with
      | nil=>rfl
      | cons z zs=>obtain⟨_,_,h,_⟩:=hc 0 z rfl;cases h
    subst this
    simp[Builtin.firstCells]
  | some ad =>
    refine run_firstCells_some w' es n ad n cap _ (by simp[hl]) fun j v hj => ?_
    obtain⟨b,o',hadd,hcell⟩:=hc j v hj
    cases hadd
    rw[qbi,hw,hcell]
 obtain⟨i,hi1,hi2⟩:=hte.run_info w
 obtain⟨z,hz1,hz2,_⟩:=hte.run_zero w
 have sz:=hte.run_sizeOf w
 have hargs0:(#[t,u]++ad)[0]?=some t:=by rw[Array.getElem?_append_left (by simp)];rfl
 have hargs1:(#[t,u]++ad)[1]?=some u:=by
  rw[Array.getElem?_append_left (by simp)];rfl
 have hinfo:=hte.info
 obtain⟨ti',z',hti,hts,htb,htz,hzc,_⟩:=hinfo
 by_cases hfit:n1.v+n2.v<=cap1
 ·
  have hr2:=rd (n:=n2.v) (cap:=cap2) hc2 hl2 w (fun _=>rfl)
  have run0 : ∀ w',(match ad1 with|some b=>storeCells (b.add (n1.v*es)) ys|none=>pure ():Sem Unit).run P w = .ok () w' ->
    (execOp a.eval o).run P w = .ok (.value (.slice ad1 (n1.v+n2.v) cap1)) w':=by
   intro w' hw'
   rw[hrun]
   have e:(Builtin.append_ (#[t,u]++ad) o.type #[.slice ad1 n1.v cap1,.slice ad2 n2.v cap2]).run P w = .ok (.slice ad1 (n1.v+n2.v) cap1) w':=by
    cases ad1 with
    | none =>
      simp only[Sem.run_pure]at hw'
      cases hw'
      simp[Builtin.append_,hargs0,hargs1,qA hu,qA huf,sz,Builtin.lenOf,<- hes,hr2,hfit]
    | some b =>
      simp only at hw'
      simp[Builtin.append_,hargs0,hargs1,qA hu,qA huf,sz,Builtin.lenOf,<- hes,hr2,hfit,hw']
   rw[e];rfl
  cases ad1 with
  | none =>
    have hcap0:cap1=0:=by
      cases id with
      | none =>
        have:=(hnil rfl).1
        simp only[Value.slice.injEq]at this
        exact this.2.2
      | some i =>
        obtain⟨off,len,cp,rfl,hcp⟩:=hid1 i rfl
        simp only[Den,Rep,List.cons.injEq,and_true]at hds
        obtain⟨ad',e,_,_,hg1,hg2⟩:=hds
        cases hgg:(ρ i).g with
        | true=>rw[<- hcp];exact(hg1 hgg).2
        | false =>
          obtain⟨o',e2,_⟩:=hg2 hgg
          subst e2
          simp at e
    have z1:n1.v=0:=by omega
    have z2:n2.v=0:=by omega
    have hxs:xs=[]:=by rw[z1,Nat.zero_mul]at hl1;exact List.eq_nil_of_length_eq_zero hl1
    have hys:ys=[]:=by rw[z2,Nat.zero_mul]at hl2;exact List.eq_nil_of_length_eq_zero hl2
    refine⟨_,w,⟨0,0,0,true⟩,0,run0 w rfl,Same.refl w,by omega,?_,?_,fun _ _ _=>rfl,fun e=>by cases e⟩
    · intro ρ' new e
      simp only[Den,Rep,e,List.cons.injEq,and_true]
      refine⟨none,by rw[hn,hcap0];rfl,by rw[hn];show n1.v+n2.v<=0;omega,by simp[SN.v],fun _=>⟨rfl,rfl⟩,by simp⟩
    · intro ρ' new e _
      exact .inl ⟨by rw[e],by rw[e],hgh (by rw[hxs,hys];rfl)⟩
  | some b =>
    cases id with
    | none =>
      have:=(hnil rfl).1
      simp at this
    | some i =>
      obtain⟨off,len,cp,rfl,hcp⟩:=hid1 i rfl
      have hlf:qah (look h i)=false:=(hjk i rfl).2.resolve_right (by omega)
      simp only[Den,Rep,List.cons.injEq,and_true]at hds
      obtain⟨ad',e,_,hroom,hg1,hg2⟩:=hds
      have hgf:(ρ i).g=false:=by
        cases hgg:(ρ i).g with
        | false=>rfl
        | true =>
          obtain⟨e2,_⟩:=hg1 hgg
          subst e2
          simp at e
      obtain⟨o',e2,ho'⟩:=hg2 hgf
      subst e2
      simp only[Value.slice.injEq,Option.some.injEq]at e
      obtain⟨e,_,_⟩:=e
      subst e
      rw[hcp]at hroom ho'
      rcases R.lies (hjk i rfl).1 with hg|⟨arr,te',vs,li⟩
      · rw[hg.1]at hgf;cases hgf
      have hroom2:=li.room
      have hys_l:ys.length=n2.v*es:=hl2
      have hmul:n1.v*es+n2.v*es<=cap1*es:=by rw[<- Nat.add_mul];exact Nat.mul_le_mul_right _ hfit
      have hold : ∀ (j:Nat) z,xs[j]?=some z->arr[(ρ i).o+off.v+j]?=some z:=by
        intro j z hz
        obtain⟨b,o'',hadd,hcell⟩:=hc1 j z hz
        cases hadd
        have hc0:cap1 ≠ 0:=by
          intro e
          have:n1.v=0:=by omega
          rw[this,Nat.zero_mul]at hl1
          rw[List.eq_nil_of_length_eq_zero hl1]at hz
          simp at hz
        rw[ho' hc0]at hcell
        simp only[World.cell?,li.blk]at hcell
        exact hcell
      have hst : ∃ w' arr',(storeCells ((⟨(ρ i).b,o',none⟩:Addr).add (n1.v*es)) ys).run P w = .ok () w'/\w'.heap[(ρ i).b]?=some (.cells arr' te'.1 (0,0))/\arr'.size=arr.size /\
          (∀ j,arr'[j]?=if (ρ i).o+off.v+n1.v*es<=j/\j<(ρ i).o+off.v+n1.v*es+n2.v*es then ys[j-((ρ i).o+off.v+n1.v*es)]? else arr[j]?)/\(∀ k,k ≠ (ρ i).b->w'.heap[k]?=w.heap[k]?)/\Same w w':=by
        by_cases hc0:cap1=0
        · have hy0:ys=[]:=by
            have:n2.v=0:=by omega
            rw[this,Nat.zero_mul]at hl2
            exact List.eq_nil_of_length_eq_zero hl2
          have:n2.v*es=0:=by rw[<- hl2,hy0];rfl
          refine⟨w,arr,by rw[hy0];rfl,li.blk0 hlf,rfl,fun j => ?_,fun _ _=>rfl,Same.refl w⟩
          rw[if_neg (by omega)]
        · rw[ho' hc0,qbi]
          obtain⟨w',arr',f1,f2,f3,f4,f5,f6,f7⟩:=qeD (P:=P) (o:=(ρ i).o+off.v+n1.v*es) ys 0 w arr (li.blk0 hlf)
            hon (by rw[hys_l];omega)
          refine⟨w',arr',f1,f2,f3,fun j => ?_,f5,f6⟩
          rw[f4 j,hys_l]
          simp only[Nat.add_zero]
      obtain⟨w',arr',f1,f2,f3,f4,f5,f6⟩:=hst
      refine⟨_,w',⟨(ρ i).b,(ρ i).o+off.v,cap1*es,false⟩,cap1,run0 w' f1,f6,by omega,?_,?_,?_,fun _ =>.inr ⟨i,rfl,hgf,rfl⟩⟩
      · intro ρ' new e
        simp only[Den,Rep,e,List.cons.injEq,and_true]
        refine⟨_,by rw[hn];rfl,by rw[hn];exact hfit,by simp[SN.v],by simp,fun _=>⟨o',rfl,fun hc0 => ?_⟩⟩
        exact ho' hc0
      · intro ρ' new e hU
        refine .inr ⟨arr',(te'.1,(0,0)),xs++ys,by rw[e],by rw[e];exact f2,by rw[e];exact li.own,hrep _ hU,by rw[e];dsimp only;omega,?_,fun j v hj => ?_,fun _=>rfl⟩
        · rw[e,List.length_append,hl1,hl2];exact hmul
        · rw[e]
          dsimp only
          rw[f4]
          by_cases hjx:j<n1.v*es
          · rw[List.getElem?_append_left (by rw[hl1];exact hjx)]at hj
            rw[if_neg (by omega)]
            exact hold j v hj
          · rw[List.getElem?_append_right (by rw[hl1];omega),hl1]at hj
            have hjl:j-n1.v*es<n2.v*es:=by
              have:=(List.getElem?_eq_some_iff.1 hj).1
              rw[hys_l]at this
              exact this
            rw[if_pos (by omega),show(ρ i).o+off.v+j-((ρ i).o+off.v+n1.v*es)=j-n1.v*es by omega]
            exact hj
      · intro b hb hne
        exact f5 b (hne i rfl hgf)
 ·
  have hr1:=rd (n:=n1.v) (cap:=cap1) hc1 hl1 w.drew (fun _=>rfl)
  have hr2:=rd (n:=n2.v) (cap:=cap2) hc2 hl2 w.drew (fun _=>rfl)
  have hfits : ¬ (281474976710656<Builtin.nextslicecap (n1.v+n2.v) cap1*te.bytes):=by
   have:=growslice_fits (need:=n1.v+n2.v) (old:=cap1) (bytes:=te.bytes) (by omega) (by rw[<- hby];exact hb)
   omega
  have hge:=grownCap_ge w (n1.v+n2.v) cap1 e
  have hb0' : ¬ te.bytes=0:=by omega
  have hrun2:(Builtin.append_ (#[t,u]++ad) o.type #[.slice ad1 n1.v cap1,.slice ad2 n2.v cap2]).run P w =
    .ok (.slice (some ⟨w.heap.size,0,none⟩) (n1.v+n2.v) (grownCap w (n1.v+n2.v) cap1 e))
     (w.drew.alloc (.cells (xs.toArray++ys.toArray++Builtin.zeroCells z'.cells (grownCap w (n1.v+n2.v) cap1 e-(n1.v+n2.v))) e)):=by
   simp[Builtin.append_,hargs0,hargs1,qA hu,qA huf,sz,Builtin.lenOf,<- hes,hfit,Question.forced,hr1,hr2,newRow,grownCap,typeInfo,hti,htb,hb0',hfits,zeroValue,htz]
   congr 2
   apply Array.ext'
   simp[List.append_assoc]
  have hzl:(Builtin.zeroCells z'.cells (grownCap w (n1.v+n2.v) cap1 e-(n1.v+n2.v))).size=(grownCap w (n1.v+n2.v) cap1 e-(n1.v+n2.v))*es:=by
   simp[Builtin.zeroCells,hzc,<- hes]
  generalize grownCap w (n1.v+n2.v) cap1 e=gc at *
  refine⟨_,w.drew.alloc (.cells (xs.toArray++ys.toArray++Builtin.zeroCells z'.cells (gc-(n1.v+n2.v))) e),⟨w.heap.size,0,gc*es,false⟩,gc,by rw[hrun,hrun2,Result.andThen_ok],⟨rfl,rfl,rfl,by simp[World.alloc]⟩,by omega,?_,?_,?_,fun _ =>.inl rfl⟩
  ·intro ρ' new e
   simp only[Den,Rep,e,List.cons.injEq,and_true]
   exact⟨_,by rw[hn];rfl,by rw[hn];exact hge,by simp[SN.v],by simp,fun _=>⟨0,rfl,fun _=>by simp[SN.v]⟩⟩
  ·intro ρ' new eq hU
   refine .inr ⟨xs.toArray++ys.toArray++Builtin.zeroCells z'.cells (gc-(n1.v+n2.v)),(e,(0,0)),xs++ys,by rw[eq],?_,by rw[eq];exact hH _ (Nat.le_refl _),hrep _ hU,?_,?_,fun j v hj => ?_,fun _=>rfl⟩
   ·rw[eq]
    simp only[World.alloc]
    exact Array.getElem?_push_size
   ·rw[eq]
    simp only[Array.size_append,List.size_toArray,hzl,hl1,hl2]
    rw[<- Nat.add_mul,<- Nat.add_mul]
    rw[show n1.v+n2.v+(gc-(n1.v+n2.v))=gc by omega]
    omega
   ·rw[eq,List.length_append,hl1,hl2,<- Nat.add_mul]
    exact Nat.mul_le_mul_right _ hge
   ·rw[eq]
    dsimp only
    rw[Nat.zero_add,<- Array.getElem?_toList]
    have e3:(xs.toArray++ys.toArray++Builtin.zeroCells z'.cells (gc-(n1.v+n2.v))).toList =
      (xs++ys)++(Builtin.zeroCells z'.cells (gc-(n1.v+n2.v))).toList:=by simp
    rw[e3,List.getElem?_append_left (List.getElem?_eq_some_iff.1 hj).1]
    exact hj
  ·intro b hb hne
   simp only[World.alloc]
   rw[Array.getElem?_push,if_neg (by simp;omega)]
   rfl
theorem qj0 (R:Rel E ρ H ts h top a w) {es bytes:Nat} {s c:SVal} (hH : ∀ b,w.heap.size<=b->H b=none) {id:Option Nat} {k1 k2:Option IntKind} {xs ys:List Int} {n1 n2:SN} {kk:IntKind}
  {t u e f:TypeId} {te:TI} {ad:Array TypeId} {ad1 ad2:Option Addr} {cap1 cap2:Nat} (hte:TyOk P e te) (hes:es=te.size) (hby:bytes=te.bytes) (hb0:0<te.bytes) (hu:P.underlying t=some (.slice e)) (huf:P.underlying u=some (.slice f))
  (hrun:(execOp a.eval o).run P w=((Builtin.append_ (#[t,u]++ad) o.type #[.slice ad1 n1.v cap1,.slice ad2 n2.v cap2]).run P w).andThen (fun v w' =>.ok (.value v) w')) (hds:Den ρ H s (.slice ad1 n1.v cap1))
  (hle1:n1.v<=cap1) (hl1:xs.length=n1.v*es) (hc1 : ∀ (j:Nat) z,xs[j]?=some z -> ∃ kk b o,k1=some kk/\ad1=some ⟨b,o,none⟩/\w.cell? ⟨b,o+j,none⟩=some (.int kk z))
  (hid1 : ∀ i,id=some i -> ∃ off len cp,s = .sl i es off len cp/\cp.v=cap1) (hnil:id=none->(.slice ad1 n1.v cap1:Value) = .slice none 0 0/\xs=[])
  (hle2:n2.v<=cap2) (hl2:ys.length=n2.v*es) (hc2 : ∀ (j:Nat) z,ys[j]?=some z -> ∃ kk b o,k2=some kk/\ad2=some ⟨b,o,none⟩/\w.cell? ⟨b,o+j,none⟩=some (.int kk z))
  (ki1 : ∀ q,k1=some q->kk=q) (ki2 : ∀ q,k2=some q->kk=q) (hb:(n1.v+n2.v)*bytes<=140737488355328) (hjk : ∀ i,id=some i->look h i ≠ .junk/\(qah (look h i)=false\/cap1<n1.v+n2.v))
  (hrep : ∀ ρ' H',Rep ρ' H' c ((xs++ys).map (Value.int kk))) (hgh:xs++ys=[] -> ∃ k,c = .seq k []) (hcl:qah c=false) :
  ∃ v w' pos cap,(execOp a.eval o).run P w = .ok (.value v) w'/\AppRes E top ρ H w id es (n1.add E.Ω n2) c v w' pos cap :=
 qjZ (xs:=xs.map (Value.int kk)) (ys:=ys.map (Value.int kk)) hE R hH hte hes hby hb0 hu huf hrun hds hle1 (by rw[List.length_map];exact hl1)
  (fun j z hz=>by
   rw[List.getElem?_map,Option.map_eq_some_iff]at hz
   obtain⟨y,hy,rfl⟩:=hz
   obtain⟨q,b,o',hq,h1,h2⟩:=hc1 j y hy
   exact⟨b,o',h1,by rw[ki1 q hq];exact h2⟩) hid1 (fun e=>⟨(hnil e).1,by rw[(hnil e).2];rfl⟩) hle2 (by rw[List.length_map];exact hl2)
  (fun j z hz=>by
   rw[List.getElem?_map,Option.map_eq_some_iff]at hz
   obtain⟨y,hy,rfl⟩:=hz
   obtain⟨q,b,o',hq,h1,h2⟩:=hc2 j y hy
   exact⟨b,o',h1,by rw[ki2 q hq];exact h2⟩) (fun v hv=>by obtain⟨z,_,rfl⟩:=List.mem_map.1 hv;trivial) hb hjk
  (fun ρ' _=>by rw[<- List.map_append];exact hrep ρ' H) (fun e=>by
   rw[<- List.map_append,List.map_eq_nil_iff]at e
   obtain⟨k,hk⟩:=hgh e
   exact⟨some k,hk⟩) hcl
theorem qoM (R:Rel E ρ H ts h top a w) {es bytes:Nat} {s x:SVal} (hO:qM P E ρ H h top a w o (.app es bytes s x)) (hH : ∀ b,w.heap.size<=b->H b=none) {id id2:Option Nat} {k1 k2:Option IntKind} {xs ys:List Int} {n1 n2:SN} {kk:IntKind}
  (h1:appS E h es s=some (id,k1,xs,n1)) (h2:appS E h es x=some (id2,k2,ys,n2)) (h3:qdg h s x=true) (h4:appK k1 k2=some kk)
  (hb:(n1.v+n2.v)*bytes<=140737488355328) (hs:aPre h es s) (hx:aPre h es x) :
  ∃ v w' pos cap,(execOp a.eval o).run P w = .ok (.value v) w'/\AppRes E top ρ H w id es (n1.add E.Ω n2) (.seq kk (appC E.Ω id xs ys)) v w' pos cap:=by
 obtain⟨vs,vx,t,u,e,f,te,ad,hte,hes,hby,hb0,hu,huf,hrun,hds,hdx,_,_⟩:=hO
 obtain⟨ad1,cap1,rfl,hle1,hl1,hc1,hk1,hid1,hnil⟩:=qhh hE R hds h1 hs
 obtain⟨ad2,cap2,rfl,hle2,hl2,hc2,hk2,hid2,_⟩:=qhh hE R hdx h2 hx
 have hcat:E.Ω.cat xs ys=xs++ys:=by rw[hE.om];rfl
 have hbn:id=none->qbh h s=true:=by
  rintro rfl
  cases hab:qbh h s with
  | true=>rfl
  | false =>
    simp only[qdg,hab]at h3
    split at h3<;>try (cases h3;done)
    split at h3<;>try (cases h3;done)
    rename_i hlk
    simp only[appS,hlk]at h1
    split at h1<;>simp_all
 have hct:appC E.Ω id xs ys=xs++ys:=by
  cases id with
  | some i=>exact hcat
  | none=>rw[(hnil (hbn rfl) rfl).2];rfl
 rw[hct]
 have ki1 : ∀ q,k1=some q->kk=q:=by
  rintro q rfl
  unfold appK at h4
  cases k2 with
  | none=>simp at h4;exact h4.symm
  | some q2=>simp only at h4;split at h4<;>cases h4;rfl
 have ki2 : ∀ q,k2=some q->kk=q:=by
  rintro q rfl
  unfold appK at h4
  cases k1 with
  | none=>simp at h4;exact h4.symm
  | some q2 =>
    simp only at h4
    split at h4<;>cases h4
    rename_i hq
    exact keq_iff.1 hq
 have hjk : ∀ i,id=some i->look h i ≠ .junk/\(qah (look h i)=false\/cap1<n1.v+n2.v):=by
  rintro i rfl
  obtain⟨off,len,cp,rfl,hcp⟩:=hid1 i rfl
  refine⟨fun hj => ?_,?_⟩
  ·cases hbb:Nat.beq es es<;>simp[appS,hbb,hj]at h1
  ·cases hlc:qah (look h i)with
   | false=>exact .inl rfl
   | true =>
     right
     obtain⟨k0,zs,hlk⟩ : ∃ k0 zs,look h i = .lck k0 zs:=by
       cases hlk:look h i<;>rw[hlk]at hlc<;>first|(cases hlc;done)|exact⟨_,_,rfl⟩
     have hab:qbh h (.sl i es off len cp)=false:=by simp[qbh,hlk]
     simp only[qdg,hab]at h3
     split at h3<;>try (cases h3;done)
     rename_i id' es' off' n m heq
     cases heq
     simp only[hlk]at h3
     split at h3<;>try (cases h3;done)
     rename_i j es2 off2 k cap3 _ _
     simp only[Bool.and_eq_true]at h3
     have h5:=Nat.eq_of_beq_eq_true h3.1
     have h6:0<k:=Nat.le_of_ble_eq_true h3.2
     have e1:n1 = .l n:=by
       simp only[appS,hlk]at h1
       split at h1
       all_goals first
         | (cases h1;done)
         | (cases h1;rfl)
         | contradiction
         | (split at h1<;>(cases h1;rfl))
     have e2:n2 = .l k:=by
       simp only[appS]at h2
       split at h2<;>first|(cases h2;done)|(cases h2;rfl)|(split at h2<;>(cases h2;rfl))
     rw[e1,e2,<- hcp]
     simp only[SN.v]
     omega
 exact qj0 hE R hH hte hes hby hb0 hu huf hrun hds hle1 hl1 hc1 hid1 (fun e=>hnil (hbn e) e) hle2 hl2 hc2 ki1 ki2 hb hjk (fun _ _=>by simp only[Rep]) (fun e=>⟨kk,by rw[e]⟩) rfl
omit hE in
theorem PayL.cat_ok {q1 q2 q:PayL} {xs ys:List Int} (hc:q1.cat Om.real q2=some q) (h1:q1.ok xs) (h2:q2.ok ys):q.es=q1.es/\q2.es=q1.es/\q.len=q1.len+q2.len/\q.ok (xs++ys):=by
 have key : ∀ {es n m:Nat} {g:Nat->Pay} {g1 g2:Nat->Pay},xs.length=n*es->ys.length=m*es->(∀ i,i<n->g i=g1 i)->(∀ i,i<m->g (n+i)=g2 i) ->
   (∀ i,i<n->(g1 i).ok ((xs.drop (i*es)).take es))->(∀ i,i<m->(g2 i).ok ((ys.drop (i*es)).take es)) -> ∀ i,i<n+m->(g i).ok (((xs++ys).drop (i*es)).take es):=by
  intro es n m g g1 g2 e1 e2 e3 e4 e5 e6 i hi
  by_cases hn:i<n
  ·have:i*es+es<=n*es:=by rw[<- Nat.succ_mul];exact Nat.mul_le_mul_right _ hn
   rw[List.drop_append_of_le_length (by omega),List.take_append_of_le_length (by simp;omega),e3 i hn]
   exact e5 i hn
  ·obtain⟨k,rfl⟩ : ∃ k,i=n+k:=⟨i-n,by omega⟩
   rw[List.drop_append,List.drop_eq_nil_of_le (by rw[e1];exact Nat.mul_le_mul_right _ (by omega)),List.nil_append,e1,Nat.add_mul,Nat.add_sub_cancel_left,e4 k (by omega)]
   exact e6 k (by omega)
 cases q1<;>cases q2<;>simp only[PayL.cat]at hc<;>cases hc
 ·rename_i a b
  refine⟨rfl,rfl,by simp[Om.real,PayL.len],by simp[Om.real,PayL.len,PayL.es,h1.1,h2.1,Nat.add_mul],?_⟩
  have:=key (g:=(PayL.fe (a++b)).get) h1.1 h2.1 (fun i hi=>by
   simp only[PayL.get,List.getD_eq_getElem?_getD];rw[List.getElem?_append_left hi]) (fun i hi=>by
   simp only[PayL.get,PayL.len,List.getD_eq_getElem?_getD];rw[List.getElem?_append_right (by omega)];simp) h1.2 h2.2
  simpa[Om.real,PayL.len,PayL.es]using this
 ·rename_i a b
  refine⟨rfl,rfl,by simp[Om.real,PayL.len],by simp[Om.real,PayL.len,PayL.es,h1.1,h2.1,Nat.add_mul],?_⟩
  have:=key (g:=(PayL.pt (a++b)).get) h1.1 h2.1 (fun i hi=>by
   simp only[PayL.get,List.getD_eq_getElem?_getD];rw[List.getElem?_append_left hi]) (fun i hi=>by
   simp only[PayL.get,PayL.len,List.getD_eq_getElem?_getD];rw[List.getElem?_append_right (by omega)];simp) h1.2 h2.2
  simpa[Om.real,PayL.len,PayL.es]using this
end
end Go.Sx
end
section
namespace Go.Sx
theorem qhi {i:Nat} {c:SVal} : ∀ (h:Heap),(insH i c h).Perm ((i,c) :: h)
 | [] =>.refl _
 | (j,d) :: r=>by
   simp only[insH]
   split
   · exact .refl _
   · exact((qhi r).cons _).trans (.swap ..)
theorem qeO : ∀ (l:List (Nat × SVal)) (h:Heap),(qC l h).Perm (l++h)
 | [],h =>.refl _
 | (i,c) :: l,h=>by
   simp only[qC,List.cons_append]
   exact(qeO l _).trans (((qhi h).append_left l).trans List.perm_middle)
def ApartR (ρ:Rho) (a b:Nat × SVal):Prop:=a.1 ≠ b.1/\((ρ a.1).g=false->(ρ b.1).g=false->(ρ a.1).b ≠ (ρ b.1).b)
theorem ApartR.symm {ρ:Rho} {a b:Nat × SVal} (h:ApartR ρ a b):ApartR ρ b a:=⟨h.1.symm,fun x y=>(h.2 y x).symm⟩
def Kept (w w':World):Prop :=∀ b,b<w.heap.size->w'.heap[b]?=w.heap[b]?
theorem Agree.size {H:Snap} {w:World} (h:Agree H w) : ∀ b,w.heap.size<=b->H b=none:=by
 intro b hb
 cases hH:H b with
 | none=>rfl
 | some o =>
   have:=h b o hH
   rw[Array.getElem?_eq_none hb]at this
   cases this
theorem Agree.kept {H:Snap} {w w':World} (h:Agree H w) (k:Kept w w'):Agree H w':=fun b o hb=>by
 have:=h b o hb
 have hlt:b<w.heap.size:=(Array.getElem?_eq_some_iff.1 this).1
 rw[k b hlt];exact this
theorem Lies.kept {ρ ρ':Rho} {H:Snap} {w w':World} {U:Top} {id:Nat} {c:SVal} {arr:Array Value} {t:Tf} {vs:List Value} (l:Lies ρ H w id c arr t vs) (hid:U id) (hc:IdsLt U c)
  (hρ : ∀ i,U i->ρ' i=ρ i) (hk:w'.heap[(ρ id).b]?=w.heap[(ρ id).b]?):Lies ρ' H w' id c arr t vs:=by
 have e:=hρ id hid
 exact⟨by rw[e];exact l.real,by rw[e,hk];exact l.blk,by rw[e];exact l.own,Rep.ext hρ (fun _ _ h=>h) c hc l.rep,by rw[e];exact l.room,by rw[e];exact l.fits,by rw[e];exact l.cells,l.fz⟩
section
variable {P:Program} {E:Env} {ρ:Rho} {H:Snap} {ts:List SVal} {h:Heap} {U:Top} {a:Act} {w:World}
theorem Rel.wf (R:Rel E ρ H ts h U a w):WF E U ts h:=⟨R.ids,R.hids⟩
theorem Act.put_size (a:Act) (d:Option Tmp) (v:Value):(a.put d v).tmps.size=a.tmps.size:=by
 cases d<;>simp[Act.put]
theorem Act.put_get (a:Act) (d:Option Tmp) (v:Value) (i:Nat):(a.put d v).tmps.getD i undef=if d=some i/\i<a.tmps.size then v else a.tmps.getD i undef:=by
 cases d with
 | none=>simp[Act.put]
 | some d =>
   simp only[Act.put,Option.some.injEq]
   rw[Array.getD_eq_getD_getElem?,Array.getD_eq_getD_getElem?,Array.getElem?_setIfInBounds]
   by_cases e:d=i
   · subst e
     by_cases g:d<a.tmps.size
     · simp[g]
     · simp[g]
   · simp[e]
theorem Rel.set (R:Rel E ρ H ts h U a w) (d:Option Nat) {v:SVal} {u:Value} (hv:Den ρ H v u) (hi:IdsLt U v):Rel E ρ H (putD ts d v) h U (a.put d u) w:=by
 have hlen:(putD ts d v).length=ts.length:=by cases d<;>simp[putD,qjn]
 refine⟨by rw[hlen,Act.put_size];exact R.len,fun i => ?_,fun i => ?_,R.hids,R.agree,R.heap,?_,R.glob,R.same⟩
 ·rw[Act.put_get]
  by_cases hd:d=some i
  ·subst hd
   simp only[putD]
   by_cases hi':i<ts.length
   ·rw[qeA _ _ _ hi',if_pos (by have:=R.len;refine⟨?_,by omega⟩;first|trivial|rfl)];exact hv
   ·rw[qeB _ _ _ (by omega)]
    have:getT ts i = .junk:=by
     have : ∀ (l:List SVal) (i:Nat),l.length<=i->getT l i = .junk:=by
      intro l
      induction l with
      | nil=>intro i _;simp[getT]
      | cons s l ih=>intro i hl;cases i with
        | zero=>simp at hl
        | succ i=>simp only[getT];exact ih i (by simpa using hl)
     exact this ts i (by omega)
    rw[this];trivial
  ·rw[if_neg (fun q=>hd q.1),qbl hd];exact R.den i
 ·by_cases hd:d=some i
  ·subst hd
   simp only[putD]
   by_cases hi':i<ts.length
   ·rw[qeA _ _ _ hi'];exact hi
   ·rw[qeB _ _ _ (by omega)];exact R.ids i
  ·rw[qbl hd];exact R.ids i
 ·cases d<;>exact R.defers
theorem Rel.junk (R:Rel E ρ H ts h U a w) (d:Option Nat) (u:Value):Rel E ρ H (putD ts d .junk) h U (a.put d u) w:=R.set d trivial trivial
theorem Rel.gd {all:List Oper} {i:Nat} {v:SVal} {u:Value} (h:Den ρ H v u):Den ρ H (gd all i v) u:=by
 unfold Sx.gd
 split
 ·split
  ·simpa[Den,Rep]using h
  ·exact h
 ·exact h
theorem Rel.grow (R:Rel E ρ H ts h U a w) {w':World} (hs:Same w w') (hk:Kept w w') {ρ':Rho} {V:Top} {l:List (Nat × SVal)} (hρ : ∀ i,U i->ρ' i=ρ i) (hV : ∀ p ∈ l,V p.1 /\ ¬ U p.1/\IdsLt (both U V) p.2)
  (hl : ∀ p ∈ l,qat ρ' p.1 p.2 \/ ∃ arr t vs,Lies ρ' H w' p.1 p.2 arr t vs) (hb : ∀ p ∈ l,(ρ' p.1).g=false->w.heap.size<=(ρ' p.1).b) (hd:l.Pairwise (ApartR ρ')) :
  Rel E ρ' H ts (qC l h) (both U V) a w':=by
 refine⟨R.len,fun i=>Den.ext hρ (fun _ _ h=>h) (R.ids i) (R.den i),fun i=>IdsLt.mono (fun _ =>.inl) _ (R.ids i),fun id c hc => ?_,R.agree.kept hk,⟨fun id c hc => ?_,?_⟩,R.defers,
  fun g=>⟨Den.ext (t:=noId) (fun i h=>h.elim) (fun _ _ h=>h) (R.glob g).2 (R.glob g).1,(R.glob g).2⟩,R.same.trans hs⟩
 ·rcases (qcC _ _).1 hc with hc|hc
  ·exact⟨.inr (hV _ hc).1,(hV _ hc).2.2⟩
  ·exact⟨.inl (R.hids _ _ hc).1,IdsLt.mono (fun _ =>.inl) _ (R.hids _ _ hc).2⟩
 ·rcases (qcC _ _).1 hc with hc|hc
  ·exact hl _ hc
  ·have hid:=R.hids _ _ hc
   rcases R.heap.1 id c hc with hg|⟨arr,t,vs,li⟩
   ·exact .inl ⟨by rw[hρ id hid.1];exact hg.1,by rw[hρ id hid.1];exact hg.2.1,hg.2.2⟩
   ·exact .inr ⟨arr,t,vs,li.kept hid.1 hid.2 hρ (hk _ (Array.getElem?_eq_some_iff.1 li.blk).1)⟩
 ·refine((qeO l h).pairwise_iff (R:=ApartR ρ') fun h=>h.symm).2 ?_
  rw[List.pairwise_append]
  refine⟨hd,?_,fun p hp q hq => ?_⟩
  ·refine List.Pairwise.imp_of_mem (fun {p q} hp hq hpq => ?_) R.heap.2
   have e1:=hρ p.1 (R.hids _ _ hp).1
   have e2:=hρ q.1 (R.hids _ _ hq).1
   exact⟨hpq.1,by rw[e1,e2];exact hpq.2⟩
  ·have hq1:=(R.hids _ _ hq).1
   refine⟨fun e=>(hV p hp).2.1 (by rw[e];exact hq1),fun g1 g2 => ?_⟩
   have h1:=hb p hp g1
   rw[hρ _ hq1]at g2 ⊢
   rcases R.heap.1 q.1 q.2 hq with hg|⟨arr,t,vs,li⟩
   ·rw[hg.1]at g2;cases g2
   ·have:=(Array.getElem?_eq_some_iff.1 li.blk).1
    omega
theorem qj1 {id:Nat} {c:SVal} : ∀ (h:Heap),(updH h id c).map (·.1)=h.map (·.1)
 | []=>rfl
 | (j,d) :: r=>by
   simp only[updH]
   split
   · rfl
   · simp only[List.map_cons,qj1 r]
theorem qoN {ρ:Rho} {l l':Heap} (h:l.map (·.1)=l'.map (·.1)) (hp:l'.Pairwise (ApartR ρ)):l.Pairwise (ApartR ρ):=by
 have key : ∀ (l:Heap),l.Pairwise (ApartR ρ) ↔ (l.map (·.1)).Pairwise fun a b=>a ≠ b/\((ρ a).g=false->(ρ b).g=false->(ρ a).b ≠ (ρ b).b):=by
  intro l
  rw[List.pairwise_map]
  exact Iff.rfl
 rw[key,h,<- key]
 exact hp
theorem qj2 {id:Nat} {c c0:SVal} : ∀ (h:Heap),(id,c0) ∈ h -> ∃ h1 c1 h2,h=h1++(id,c1) :: h2/\updH h id c=h1++(id,c) :: h2
 | [],hm=>by cases hm
 | (j,d) :: r,hm=>by
   simp only[updH]
   split
   · rename_i hb
     have:=Nat.eq_of_beq_eq_true hb
     subst this
     exact⟨[],d,r,rfl,rfl⟩
   · rename_i hb
     rcases List.mem_cons.1 hm with h|h
     · cases h
       rw[Nat.beq_refl]at hb
       cases hb
     · obtain⟨h1,c1,h2,e1,e2⟩:=qj2 r h
       exact⟨(j,d) :: h1,c1,h2,by rw[e1];rfl,by rw[e2];rfl⟩
theorem Rel.upd (R:Rel E ρ H ts h U a w) {w':World} {id:Nat} {c:SVal} (hu:UpdW ρ H h U w id c w'):Rel E ρ H ts (updH h id c) U a w':=by
 obtain⟨⟨c0,hm⟩,hi,hs,hsz,hk,arr,t,vs,li⟩:=hu
 have hid:=(R.hids _ _ hm).1
 obtain⟨h1,c1,h2,e1,e2⟩:=qj2 (c:=c) h hm
 have hp:h.Pairwise (ApartR ρ):=R.heap.2
 rw[e1,List.pairwise_append,List.pairwise_cons]at hp
 obtain⟨p1,⟨p2,p3⟩,p4⟩:=hp
 have hap : ∀ p,p ∈ h1\/p ∈ h2->ApartR ρ p (id,c1):=by
  rintro p (h|h)
  ·exact p4 p h (id,c1) (List.mem_cons_self ..)
  ·exact(p2 p h).symm
 have hmem : ∀ p,p ∈ updH h id c->p=(id,c)\/((p ∈ h1\/p ∈ h2)/\p ∈ h):=by
  intro p hp
  rw[e2,List.mem_append,List.mem_cons]at hp
  rcases hp with h|h|h
  ·exact .inr ⟨.inl h,by rw[e1];exact List.mem_append_left _ h⟩
  ·exact .inl h
  ·exact .inr ⟨.inr h,by rw[e1];exact List.mem_append_right _ (List.mem_cons_of_mem _ h)⟩
 refine⟨R.len,R.den,R.ids,fun i d hd => ?_,fun b o hb => ?_,⟨fun i d hd => ?_,?_⟩,R.defers,R.glob,R.same.trans hs⟩
 ·rcases hmem _ hd with h|⟨_,h⟩
  ·cases h;exact⟨hid,hi⟩
  ·exact R.hids _ _ h
 ·by_cases e:b=(ρ id).b
  ·rw[e,li.own]at hb;cases hb
  ·rw[hk b e];exact R.agree b o hb
 ·rcases hmem _ hd with h|⟨hq,h⟩
  ·cases h;exact .inr ⟨arr,t,vs,li⟩
  ·rcases R.heap.1 i d h with hg|⟨arr',t',vs',li'⟩
   ·exact .inl hg
   ·have e:=(hap _ hq).2 li'.real li.real
    exact .inr ⟨arr',t',vs',⟨li'.real,by rw[hk _ e];exact li'.blk,li'.own,li'.rep,li'.room,li'.fits,li'.cells,li'.fz⟩⟩
 ·exact qoN (qj1 h) R.heap.2
theorem qeP {id:Nat} : ∀ (h:Heap),(delH h id).Sublist h
 | [] =>.refl _
 | (j,d) :: r=>by
   simp only[delH]
   split
   · exact .cons _ (.refl _)
   · exact(qeP r).cons₂ _
theorem qj3 {id:Nat} {c0:SVal} : ∀ (h:Heap),h.Pairwise (ApartR ρ)->(id,c0) ∈ h -> ∀ p ∈ delH h id,ApartR ρ p (id,c0)
 | [],_,hm,_,_=>by cases hm
 | (j,d) :: r,hp,hm,p,hp'=>by
   rw[List.pairwise_cons]at hp
   simp only[delH]at hp'
   split at hp'
   · rename_i hb
     have:=Nat.eq_of_beq_eq_true hb
     subst this
     rcases List.mem_cons.1 hm with h|h
     · cases h;exact(hp.1 p hp').symm
     · exact absurd rfl (hp.1 _ h).1
   · rename_i hb
     rcases List.mem_cons.1 hm with h|h
     · cases h;rw[Nat.beq_refl]at hb;cases hb
     · rcases List.mem_cons.1 hp' with h'|h'
       · rw[h'];exact hp.1 _ h
       · exact qj3 r hp.2 h p h'
theorem Rel.app (R:Rel E ρ H ts h U a w) {w':World} {id:Option Nat} {es new:Nat} {n:SN} {c:SVal} {v:Value} {pos:Pos} {cap:Nat} (hA:AppRes E U ρ H w id es n c v w' pos cap)
  (hid : ∀ i,id=some i->look h i ≠ .junk) (hn : ¬ U new) (hc:IdsLt U c) {V:Top} (hV:V new) :
  ∃ ρ',(∀ i,i ≠ new->ρ' i=ρ i)/\Rel E ρ' H ts (insH new c (delO id h)) (both U V) a w'/\Den ρ' H (.sl new es (.l 0) n (.s cap)) v:=by
 let ρ':Rho:=fun i=>if i=new then pos else ρ i
 have e1:ρ' new=pos:=by simp[ρ']
 have e2 : ∀ i,i ≠ new->ρ' i=ρ i:=fun i hi=>by simp[ρ',hi]
 have eU : ∀ i,U i->ρ' i=ρ i:=fun i hi=>e2 i (by rintro rfl;exact hn hi)
 have hsub:(delO id h).Sublist h:=by
  cases id with
  | none=>exact .refl _
  | some i=>exact qeP h
 have hmem : ∀ p ∈ delO id h,p ∈ h /\ ∀ i,id=some i->(ρ p.1).g=false->(ρ i).g=false->(ρ p.1).b ≠ (ρ i).b:=by
  intro p hp
  refine⟨hsub.subset hp,?_⟩
  rintro i rfl
  have hi:=q9 rfl (hid i rfl)
  exact(qj3 h R.heap.2 hi p hp).2
 have keep : ∀ p ∈ delO id h,∀ {arr t vs},Lies ρ H w p.1 p.2 arr t vs->w'.heap[(ρ p.1).b]?=w.heap[(ρ p.1).b]?:=by
  intro p hp arr t vs li
  exact hA.keep _ (Array.getElem?_eq_some_iff.1 li.blk).1 fun i hi hg=>(hmem p hp).2 i hi li.real hg
 refine⟨ρ',e2,⟨R.len,fun i=>Den.ext eU (fun _ _ h=>h) (R.ids i) (R.den i),fun i=>IdsLt.mono (fun _ =>.inl) _ (R.ids i),fun i d hd => ?_,fun b o hb => ?_,⟨fun i d hd => ?_,?_⟩,R.defers,
  fun g=>⟨Den.ext (t:=noId) (fun i h=>h.elim) (fun _ _ h=>h) (R.glob g).2 (R.glob g).1,(R.glob g).2⟩,R.same.trans hA.same⟩,hA.den ρ' new e1⟩
 ·rcases (qeM _).1 hd with hd|hd
  ·cases hd;exact⟨.inr hV,IdsLt.mono (fun _ =>.inl) _ hc⟩
  ·have:=R.hids _ _ (hmem _ hd).1
   exact⟨.inl this.1,IdsLt.mono (fun _ =>.inl) _ this.2⟩
 ·have h1:=R.agree b o hb
  rw[hA.keep b (Array.getElem?_eq_some_iff.1 h1).1 fun i hi hg e => ?_]
  ·exact h1
  ·rcases R.heap.1 i _ (q9 rfl (hid i hi))with hg'|⟨arr,t,vs,li⟩
   ·rw[hg'.1]at hg;cases hg
   ·rw[e,li.own]at hb;cases hb
 ·rcases (qeM _).1 hd with hd|hd
  ·cases hd;exact hA.lies ρ' new e1 eU
  ·have hm:=hmem _ hd
   have hi:=R.hids _ _ hm.1
   rcases R.heap.1 _ _ hm.1 with hg|⟨arr,t,vs,li⟩
   ·exact .inl ⟨by rw[eU i hi.1];exact hg.1,by rw[eU i hi.1];exact hg.2.1,hg.2.2⟩
   ·exact .inr ⟨arr,t,vs,li.kept hi.1 hi.2 eU (keep _ hd li)⟩
 ·refine((qhi (delO id h)).pairwise_iff (R:=ApartR ρ') fun h=>h.symm).2 ?_
  rw[List.pairwise_cons]
  refine⟨fun p hp => ?_,?_⟩
  ·have hm:=hmem p hp
   have hp1:=(R.hids _ _ hm.1).1
   refine⟨by rintro rfl;exact hn hp1,fun g1 g2 => ?_⟩
   simp only[e1]at g1 ⊢
   rw[eU _ hp1]at g2 ⊢
   rcases R.heap.1 _ _ hm.1 with hg|⟨arr,t,vs,li⟩
   ·rw[hg.1]at g2;cases g2
   ·rcases hA.place g1 with hq|⟨i,hi,hgi,hq⟩
    ·have:=(Array.getElem?_eq_some_iff.1 li.blk).1
     omega
    ·rw[hq];exact(hm.2 i hi g2 hgi).symm
  ·refine List.Pairwise.imp_of_mem (fun {p q} hp hq hpq => ?_) (R.heap.2.sublist hsub)
   have e1:=eU p.1 (R.hids _ _ (hmem _ hp).1).1
   have e2:=eU q.1 (R.hids _ _ (hmem _ hq).1).1
   exact⟨hpq.1,by rw[e1,e2];exact hpq.2⟩
end
end Go.Sx
end
