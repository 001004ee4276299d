/- A contract proved in a small heap holds in every larger one: the theorem. -/
import Derived.Test.YtiekphbkomddfaaGreatDoorB7
namespace Go.Ab
theorem lw{α β:Type}{n:Nat}{f:Nat->α}{bs:List β}{q:β->α}(h:(List.range n).map f=bs.map q):n=bs.length/\∀l x,bs[l]? = some x->f l=q x:=by
 have hl:n=bs.length:=by have:=congrArg List.length h;simpa using this
 refine⟨hl,fun l x hx=> ?_⟩
 have h1:=congrArg (fun(l':List α)=>l'[l]?) h
 simp only[List.getElem?_map,hx,Option.map_some]at h1
 have hlt:l<n:=by
  rcases Nat.lt_or_ge l bs.length with h|h
  ·omega
  ·rw[List.getElem?_eq_none h]at hx;cases hx
 rw[List.getElem?_range hlt]at h1
 simpa using h1
theorem Does.frame[Lay]{P:Program}{f:Nat}{args:List D}{v:D}{bx:Nat->Option Row}{nl nt:Nat}{hw:Nat->Option Nat}{vw:Nat->Option (Nat->D)}{bx':Nat->Option Row}{nl' nt':Nat}{hw':Nat->Option Nat}{vw':Nat->Option (Nat->D)}{H:Heap}
  (c:Does P f args ⟨bx,nl,hw,nt,vw⟩ v ⟨bx',nl',hw',nt',vw'⟩) [d1:Dom bx nl] [d2:Dom hw nt] [d3:Dom vw nt] [a1:ROs args] [a2:RO v] [a3:RB bx] [a4:RV hw vw] [a5:RB bx'] [a6:RV hw' vw']
  (bs ts:List Nat) (k:(decide (bs.Nodup/\ts.Nodup/\nl<=nl'/\nt<=nt')&&bs.all (Nat.blt · H.nl)&&ts.all (Nat.blt · H.nt))=true)
  (m1:(List.range nl).map (fun l=>(bx l).map (d5 (rnm bs H.nl) (rnm ts H.nt)))=bs.map H.box) (m2:(List.range nt).map hw=ts.map H.hw) (m3:(List.range nt).map vw=ts.map H.vw) :
  Does P f (qb9 (rnm bs H.nl) (rnm ts H.nt) args) H (ren (rnm bs H.nl) (rnm ts H.nt) v) (qh bs ts H ⟨bx',nl',hw',nt',vw'⟩):=by
 simp only[Bool.and_eq_true,decide_eq_true_eq,List.all_eq_true,Nat.blt_eq]at k
 obtain⟨⟨⟨nb,nn,l1,l2⟩,hbm⟩,htm⟩:=k
 obtain⟨e1,q1⟩:=lw m1
 obtain⟨e2,q2⟩:=lw m2
 obtain⟨_,q3⟩:=lw m3
 clear m1 m2 m3
 subst e1;subst e2
 have okF:=(c (fun _ _=>True) trivial).ok
 refine Does.of_calls okF fun g U w vs i hs=> ?_
 generalize hfb:rnm bs H.nl=fb at *
 generalize hft:rnm ts H.nt=ft at *
 have fbIn:∀{l x},bs[l]? = some x->fb l=x:=fun h=>by rw[<-hfb];exact ns h
 have ftIn:∀{l x},ts[l]? = some x->ft l=x:=fun h=>by rw[<-hft];exact ns h
 have fbOut:∀{l},bs.length<=l->H.nl<=fb l:=fun h=>by rw[<-hfb,wp h];omega
 have ftOut:∀{l},ts.length<=l->H.nt<=ft l:=fun h=>by rw[<-hft,wp h];omega
 have fbInj:∀{i j},fb i=fb j->i=j:=fun h=>by rw[<-hfb]at h;exact qhe nb hbm h
 have ftInj:∀{i j},ft i=ft j->i=j:=fun h=>by rw[<-hft]at h;exact qhe nn htm h
 have fbMem:∀{l},l<bs.length->fb l∈bs:=fun h=>by rw[fbIn (List.getElem?_eq_getElem h)];exact List.getElem_mem h
 have ftMem:∀{l},l<ts.length->ft l∈ts:=fun h=>by rw[ftIn (List.getElem?_eq_getElem h)];exact List.getElem_mem h
 have boxAt:∀{l row},bx l=some row->l<bs.length/\H.box (fb l)=some (d5 fb ft row):=fun{l row} h=>by
  have hl:l<bs.length:=by
   rcases Nat.lt_or_ge l bs.length with h1|h1
   ·exact h1
   ·rw[d1.p l h1]at h;cases h
  have h1:=List.getElem?_eq_getElem hl
  have h2:=q1 l _ h1
  rw[h]at h2
  exact⟨hl,by rw[fbIn h1,<-h2];rfl⟩
 have hwAt:∀{t n},hw t=some n->t<ts.length/\H.hw (ft t)=some n/\H.vw (ft t)=vw t:=fun{t n} h=>by
  have hl:t<ts.length:=by
   rcases Nat.lt_or_ge t ts.length with h1|h1
   ·exact h1
   ·rw[d2.p t h1]at h;cases h
  have h1:=List.getElem?_eq_getElem hl
  exact⟨hl,by rw[ftIn h1,<-q2 t _ h1,h],by rw[ftIn h1,<-q3 t _ h1]⟩
 let g0:G:=⟨g.σ,fun l=>if l<bs.length then g.μ (fb l) else none,fun t=>if t<ts.length then g.τ (ft t) else none⟩
 have back:qc1 fb ft g0 g:=by
  refine⟨fun _ _ h=>h,fun l b h=> ?_,fun t k h=> ?_⟩
  ·show(if l<bs.length then g.μ (fb l) else none)=some b
   rcases Nat.lt_or_ge l bs.length with h1|h1
   ·rw[if_pos h1];exact h
   ·rw[i.frL _ (fbOut h1)]at h;cases h
  ·show(if t<ts.length then g.τ (ft t) else none)=some k
   rcases Nat.lt_or_ge t ts.length with h1|h1
   ·rw[if_pos h1];exact h
   ·rw[i.frT _ (ftOut h1)]at h;cases h
 have μ0:∀{l b},g0.μ l=some b->l<bs.length/\g.μ (fb l)=some b:=fun{l b} h=>by
  have h':(if l<bs.length then g.μ (fb l) else none)=some b:=h
  split at h'
  ·rename_i hl;exact⟨hl,h'⟩
  ·cases h'
 have τ0:∀{t k},g0.τ t=some k->t<ts.length/\g.τ (ft t)=some k:=fun{t k} h=>by
  have h':(if t<ts.length then g.τ (ft t) else none)=some k:=h
  split at h'
  ·rename_i hl;exact⟨hl,h'⟩
  ·cases h'
 let U0:Nat->Prop:=fun b=>U b\/(∃x,H.box x≠none/\x ∉ bs/\g.μ x=some b)\/∃t n k,H.hw t=some n/\t ∉ ts/\g.τ t=some k/\gq k (H.vw t)/\k.a=some ⟨b,0,none⟩
 have i0:Inv g0 U0 ⟨bx,bs.length,hw,ts.length,vw⟩ w:=by
  refine⟨i.sub,fun b hb=> ?_,fun l b e=>i.muLt _ b (μ0 e).2,fun l row e=> ?_,fun l l' b e e' f1 f2=> ?_,fun t n e=> ?_,fun t n k b l e f1 f2 f3 f4 f5=> ?_,fun t t' n n' k k' b e e' f1 f2 p1 p2 p3 p4=> ?_,fun l hl=> ?_,fun t ht=> ?_,fun t ht=>d3.p t ht,i.ltab⟩
  ·rcases hb with hb|⟨x,h1,_,h2⟩|⟨t,n,k,h1,_,h2,h3,h4⟩
   ·exact i.ub b hb
   ·exact i.muLt x b h2
   ·obtain⟨k',f1,_,f3⟩:=i.tok t n h1
    rw[h2]at f1;cases f1
    obtain⟨b',c1,c2,_⟩:=(f3 h3).blockLt
    rw[h4]at c1;cases c1;exact c2
  ·obtain⟨hl,hH⟩:=boxAt e
   obtain⟨b,f1,f2,f3,f4⟩:=i.box _ _ hH
   refine⟨b,back.μ _ _ f1,f2.unren back (a3.p l row e),fun hu=> ?_,f4⟩
   rcases hu with hu|⟨x,h1,h2,h3⟩|⟨t,n,k,h1,_,h2,h3,h4⟩
   ·exact f3 hu
   ·have:=i.boxInj (fb l) x b (by rw[hH];simp) h1 f1 h3
    exact h2 (this▸fbMem hl)
   ·exact i.tokBox t n k b (fb l) h1 h2 h3 h4 (by rw[hH];simp) f1
  ·have live:∀{l},bx l≠none->H.box (fb l)≠none:=fun{l} h=>by
    cases hb:bx l with
    |none=>exact absurd hb h
    |some row=>rw[(boxAt hb).2];simp
   exact fbInj (i.boxInj _ _ b (live e) (live e') (μ0 f1).2 (μ0 f2).2)
  ·obtain⟨hl,hH,hV⟩:=hwAt e
   obtain⟨k,f1,f2,f3⟩:=i.tok _ n hH
   refine⟨k,back.τ _ _ f1,f2,fun ha=> ?_⟩
   have ha':gq k (vw t):=ha
   rw[hV]at f3
   obtain⟨b,c1,c2,T,vals,c3,c4,c5,c6⟩:=f3 ha'
   refine⟨b,c1,fun hu=> ?_,T,vals,c3,c4,c5,fun q hq=>⟨(c6 q hq).1,fun j hj=> ?_⟩⟩
   ·rcases hu with hu|⟨x,h1,h2,h3⟩|⟨t',n',k',h1,h2,h3,h4,h5⟩
    ·exact c2 hu
    ·exact i.tokBox _ n k b x hH f1 (by rw[hV];exact ha') c1 h1 h3
    ·have:=i.tokInj _ t' n n' k k' b hH h1 f1 h3 (by rw[hV];exact ha') h4 c1 h5
     exact h2 (this▸ftMem hl)
   ·obtain⟨u,h1,h2⟩:=(c6 q hq).2 j hj
    exact⟨u,R.data (g:=g) (g':=g0) (fun _ _ h=>h) _ _ (a4.p t n q e hq j (by omega)) h1,h2⟩
  ·obtain⟨_,hH,hV⟩:=hwAt e
   have f2':gq k (vw t):=f2
   refine i.tokBox _ n k b (fb l) hH (τ0 f1).2 (by rw[hV];exact f2') f3 ?_ (μ0 f5).2
   cases hb:bx l with
   |none=>exact absurd hb f4
   |some row=>rw[(boxAt hb).2];simp
  ·obtain⟨_,hH,hV⟩:=hwAt e
   obtain⟨_,hH',hV'⟩:=hwAt e'
   have p1':gq k (vw t):=p1
   have p2':gq k' (vw t'):=p2
   exact ftInj (i.tokInj _ _ n n' k k' b hH hH' (τ0 f1).2 (τ0 f2).2 (by rw[hV];exact p1') (by rw[hV'];exact p2') p3 p4)
  ·have hl':bs.length<=l:=hl
   show(if l<bs.length then g.μ (fb l) else none)=none
   rw[if_neg (by omega)]
  ·have ht':ts.length<=t:=ht
   show(if t<ts.length then g.τ (ft t) else none)=none
   rw[if_neg (by omega)]
 have hs0:=Rs.unren back args vs a1.p hs
 refine Calls.mono ((c (fun d hh=>d=v/\hh=⟨bx',nl',hw',nt',vw'⟩) ⟨rfl,rfl⟩).calls g0 U0 w vs i0 hs0) fun e w' ⟨x,g1,d,hh,h1,h2,i1,gr1,kp,hd,hhh⟩=> ?_
 subst hd;subst hhh
 let g2:G:=⟨g1.σ,fun x=>match unr bs H.nl x with|some l=>g1.μ l|none=>g.μ x,fun x=>match unr ts H.nt x with|some t=>g1.τ t|none=>g.τ x⟩
 have μ2:∀l,g2.μ (fb l)=g1.μ l:=fun l=>by
  show(match unr bs H.nl (fb l) with|some l=>g1.μ l|none=>g.μ (fb l))=_
  rw[<-hfb,qhf nb hbm]
 have τ2:∀t,g2.τ (ft t)=g1.τ t:=fun t=>by
  show(match unr ts H.nt (ft t) with|some l=>g1.τ l|none=>g.τ (ft t))=_
  rw[<-hft,qhf nn htm]
 have xB:∀x,(∃l,fb l=x)\/(unr bs H.nl x=none/\x ∉ bs/\x<H.nl/\g2.μ x=g.μ x):=fun x=>by
  cases hx:unr bs H.nl x with
  |some l=>exact .inl ⟨l,by rw[<-hfb];exact qd9 hx⟩
  |none=>exact .inr ⟨rfl,(rj hx).1,(rj hx).2,by show(match unr bs H.nl x with|some l=>g1.μ l|none=>g.μ x)=_;rw[hx]⟩
 have xT:∀x,(∃l,ft l=x)\/(unr ts H.nt x=none/\x ∉ ts/\x<H.nt/\g2.τ x=g.τ x):=fun x=>by
  cases hx:unr ts H.nt x with
  |some l=>exact .inl ⟨l,by rw[<-hft];exact qd9 hx⟩
  |none=>exact .inr ⟨rfl,(rj hx).1,(rj hx).2,by show(match unr ts H.nt x with|some l=>g1.τ l|none=>g.τ x)=_;rw[hx]⟩
 have fmap:qqx fb ft g1 g2:=⟨fun _ _ h=>h,fun l b h=>by rw[μ2];exact h,fun t k h=>by rw[τ2];exact h⟩
 have le:G.le g g2:=by
  refine⟨fun a u h=>gr1.le.σ a u h,fun y b h=> ?_,fun y k h=> ?_⟩
  ·rcases xB y with ⟨l,rfl⟩|⟨_,_,_,h9⟩
   ·rw[μ2];exact gr1.le.μ l b (back.μ l b h)
   ·rw[h9];exact h
  ·rcases xT y with ⟨l,rfl⟩|⟨_,_,_,h9⟩
   ·rw[τ2];exact gr1.le.τ l k (back.τ l k h)
   ·rw[h9];exact⟨k,h,rfl,Nat.le_refl _,fun _=>rfl⟩
 have σnew:∀a u,g2.σ a=some u->g.σ a=some u\/¬U0 a.block:=fun a u h=>gr1.new a u h
 have notIn:∀{x n},x ∉ bs->x<H.nl->∀l,l<n->fb l≠x:=fun{x n} h1 h2 l _ he=>by
  rcases Nat.lt_or_ge l bs.length with hl|hl
  ·exact h1 (he▸fbMem hl)
  ·have:=fbOut hl;omega
 have notInT:∀{x n},x ∉ ts->x<H.nt->∀l,l<n->ft l≠x:=fun{x n} h1 h2 l _ he=>by
  rcases Nat.lt_or_ge l ts.length with hl|hl
  ·exact h1 (he▸ftMem hl)
  ·have:=ftOut hl;omega
 have boxA:∀{y row},(qh bs ts H ⟨bx',nl',hw',nt',vw'⟩).box y=some row->(∃l row0,l<nl'/\fb l=y/\bx' l=some row0/\row=d5 fb ft row0)\/(y ∉ bs/\y<H.nl/\H.box y=some row/\g2.μ y=g.μ y):=fun{y row} h=>by
  have h':qd8 H.box fb (fun l=>(bx' l).map (d5 fb ft)) nl' y=some row:=by rw[<-hfb,<-hft];exact h
  rcases xB y with ⟨l,rfl⟩|⟨_,h1,h2,h3⟩
  ·rcases Nat.lt_or_ge l nl' with hl|hl
   ·rw[oc (fun _ _ _ _ e=>fbInj e) hl]at h'
    cases hb:bx' l with
    |none=>simp only[hb,Option.map_none]at h';cases h'
    |some row0 =>
     simp only[hb,Option.map_some,Option.some.injEq]at h'
     exact .inl ⟨l,row0,hl,rfl,hb,h'.symm⟩
   ·rw[uc (fun j hj e=>by have:=fbInj e;omega)]at h'
    obtain⟨b,f1,_⟩:=i.box _ _ h'
    rw[i.frL _ (fbOut (by omega))]at f1;cases f1
  ·rw[uc (notIn h1 h2)]at h'
   exact .inr ⟨h1,h2,h',h3⟩
 have tokA:∀{y n},(qh bs ts H ⟨bx',nl',hw',nt',vw'⟩).hw y=some n->(∃t,t<nt'/\ft t=y/\hw' t=some n/\(qh bs ts H ⟨bx',nl',hw',nt',vw'⟩).vw y=vw' t)\/(y ∉ ts/\y<H.nt/\H.hw y=some n/\(qh bs ts H ⟨bx',nl',hw',nt',vw'⟩).vw y=H.vw y/\g2.τ y=g.τ y):=fun{y n} h=>by
  have h':qd8 H.hw ft hw' nt' y=some n:=by rw[<-hft];exact h
  have hv:(qh bs ts H ⟨bx',nl',hw',nt',vw'⟩).vw=qd8 H.vw ft vw' nt':=by rw[<-hft];rfl
  rw[hv]
  rcases xT y with ⟨t,rfl⟩|⟨_,h1,h2,h3⟩
  ·rcases Nat.lt_or_ge t nt' with hl|hl
   ·rw[oc (fun _ _ _ _ e=>ftInj e) hl]at h'
    exact .inl ⟨t,hl,rfl,h',oc (fun _ _ _ _ e=>ftInj e) hl⟩
   ·rw[uc (fun j hj e=>by have:=ftInj e;omega)]at h'
    obtain⟨k,f1,_⟩:=i.tok _ _ h'
    rw[i.frT _ (ftOut (by omega))]at f1;cases f1
  ·rw[uc (notInT h1 h2)]at h'
   exact .inr ⟨h1,h2,h',uc (notInT h1 h2),h3⟩
 have uBox:∀{y b},H.box y≠none->y ∉ bs->g.μ y=some b->U0 b:=fun h1 h2 h3=> .inr (.inl ⟨_,h1,h2,h3⟩)
 have uTok:∀{y n k b},H.hw y=some n->y ∉ ts->g.τ y=some k->gq k (H.vw y)->k.a=some ⟨b,0,none⟩->U0 b:=fun h1 h2 h3 h4 h5=> .inr (.inr ⟨_,_,_,h1,h2,h3,h4,h5⟩)
 have box1:∀{l row0},bx' l=some row0->∃b,g1.μ l=some b/\¬U0 b:=fun h=>by
  obtain⟨b,f1,_,f3,_⟩:=i1.box _ _ h
  exact⟨b,f1,f3⟩
 have tok1:∀{t n k b},hw' t=some n->g1.τ t=some k->gq k (vw' t)->k.a=some ⟨b,0,none⟩->¬U0 b:=fun{t n k b} e1 e2 e3 e4=>by
  obtain⟨k',f1,_,f3⟩:=i1.tok t n e1
  rw[e2]at f1;cases f1
  obtain⟨b',c1,c2,_⟩:=f3 e3
  rw[e4]at c1;cases c1;exact c2
 have i2:Inv g2 U (qh bs ts H ⟨bx',nl',hw',nt',vw'⟩) w':=by
  refine⟨i1.sub,fun b hb=>i1.ub b (.inl hb),fun y b e=> ?_,fun y row e=> ?_,fun y y' b e e' f1 f2=> ?_,fun y n e=> ?_,fun y n k b l e f1 f2 f3 f4 f5=> ?_,fun y y' n n' k k' b e e' f1 f2 p1 p2 p3 p4=> ?_,fun y hy=> ?_,fun y hy=> ?_,fun y hy=> ?_,i1.ltab⟩
  ·rcases xB y with ⟨l,rfl⟩|⟨_,_,_,h9⟩
   ·rw[μ2]at e;exact i1.muLt l b e
   ·rw[h9]at e;exact Nat.lt_of_lt_of_le (i.muLt y b e) kp.size
  ·rcases boxA e with ⟨l,row0,h3,rfl,h4,rfl⟩|⟨h3,h4,h5,h6⟩
   ·obtain⟨b,f1,f2,f3,f4⟩:=i1.box l row0 h4
    exact⟨b,by rw[μ2];exact f1,f2.ren fmap (a5.p l row0 h4) rfl,fun hu=>f3 (.inl hu),f4⟩
   ·obtain⟨b,f1,f2,f3,f4⟩:=i.box y row h5
    have hu:=uBox (by rw[h5];simp) h3 f1
    refine⟨b,by rw[h6];exact f1,f2.mono le (kp.block b hu),f3,fun a u ha hb=> ?_⟩
    rcases σnew a u ha with h7|h7
    ·exact f4 a u h7 hb
    ·exact h7 (by rw[hb];exact hu)
  ·have key:∀{y},(qh bs ts H ⟨bx',nl',hw',nt',vw'⟩).box y≠none->∃row,(qh bs ts H ⟨bx',nl',hw',nt',vw'⟩).box y=some row:=fun{y} h=>by
    cases hb:(qh bs ts H ⟨bx',nl',hw',nt',vw'⟩).box y with
    |none=>exact absurd hb h
    |some row=>exact⟨row,rfl⟩
   obtain⟨row,hr⟩:=key e
   obtain⟨row',hr'⟩:=key e'
   rcases boxA hr with ⟨l,row0,h3,rfl,h4,rfl⟩|⟨h3,h4,h5,h6⟩
   ·rw[μ2]at f1
    rcases boxA hr' with ⟨l',row0',h3',rfl,h4',rfl⟩|⟨h3',h4',h5',h6'⟩
    ·rw[μ2]at f2
     rw[i1.boxInj l l' b (by show bx' l≠none;rw[h4];simp) (by show bx' l'≠none;rw[h4'];simp) f1 f2]
    ·rw[h6']at f2
     obtain⟨b',q1,q2⟩:=box1 h4
     rw[f1]at q1;cases q1
     exact absurd (uBox (by rw[h5'];simp) h3' f2) q2
   ·rw[h6]at f1
    rcases boxA hr' with ⟨l',row0',h3',rfl,h4',rfl⟩|⟨h3',h4',h5',h6'⟩
    ·rw[μ2]at f2
     obtain⟨b',q1,q2⟩:=box1 h4'
     rw[f2]at q1;cases q1
     exact absurd (uBox (by rw[h5];simp) h3 f1) q2
    ·rw[h6']at f2
     exact i.boxInj y y' b (by rw[h5];simp) (by rw[h5'];simp) f1 f2
  ·rcases tokA e with ⟨t,h3,rfl,h4,h5⟩|⟨h3,h4,h5,h6,h7⟩
   ·obtain⟨k,f1,f2,f3⟩:=i1.tok t n h4
    refine⟨k,by rw[τ2];exact f1,f2,fun ha=> ?_⟩
    rw[h5]at ha⊢
    obtain⟨b,c1,c2,T,vals,c3,c4,c5,c6⟩:=f3 ha
    refine⟨b,c1,fun hu=>c2 (.inl hu),T,vals,c3,c4,c5,fun q hq=>⟨(c6 q hq).1,fun j hj=> ?_⟩⟩
    obtain⟨u,q1,q2⟩:=(c6 q hq).2 j hj
    exact⟨u,R.data (g:=g1) (g':=g2) (fun _ _ h=>h) _ _ (a6.p t n q h4 hq j (by omega)) q1,q2⟩
   ·obtain⟨k,f1,f2,f3⟩:=i.tok y n h5
    refine⟨k,by rw[h7];exact f1,f2,fun ha=> ?_⟩
    rw[h6]at ha⊢
    refine(f3 ha).mono le fun b hb _=> ?_
    have hu:=uTok h5 h3 f1 ha hb
    refine⟨kp.block b hu,fun j hj=> ?_⟩
    cases hx:g2.σ ⟨b,j,none⟩ with
    |none=>rfl
    |some u =>
     rcases σnew _ u hx with h8|h8
     ·rw[hj]at h8;cases h8
     ·exact absurd hu h8
  ·have hrow:∃row,(qh bs ts H ⟨bx',nl',hw',nt',vw'⟩).box l=some row:=by
    cases hb:(qh bs ts H ⟨bx',nl',hw',nt',vw'⟩).box l with
    |none=>exact absurd hb f4
    |some row=>exact⟨row,rfl⟩
   obtain⟨row,hr⟩:=hrow
   rcases tokA e with ⟨t,h3,rfl,h4,h5⟩|⟨h3,h4,h5,h6,h7⟩
   ·rw[τ2]at f1
    rw[h5]at f2
    rcases boxA hr with ⟨l',row0,h3',rfl,h4',rfl⟩|⟨h3',h4',h5',h6'⟩
    ·rw[μ2]at f5
     exact i1.tokBox t n k b l' h4 f1 f2 f3 (by show bx' l'≠none;rw[h4'];simp) f5
    ·rw[h6']at f5
     exact tok1 h4 f1 f2 f3 (uBox (by rw[h5'];simp) h3' f5)
   ·rw[h7]at f1
    rw[h6]at f2
    rcases boxA hr with ⟨l',row0,h3',rfl,h4',rfl⟩|⟨h3',h4',h5',h6'⟩
    ·rw[μ2]at f5
     obtain⟨b',q1,q2⟩:=box1 h4'
     rw[f5]at q1;cases q1
     exact q2 (uTok h5 h3 f1 f2 f3)
    ·rw[h6']at f5
     exact i.tokBox y n k b l h5 f1 f2 f3 (by rw[h5'];simp) f5
  ·rcases tokA e with ⟨t,h3,rfl,h4,h5⟩|⟨h3,h4,h5,h6,h7⟩
   ·rw[τ2]at f1
    rw[h5]at p1
    rcases tokA e' with ⟨t',h3',rfl,h4',h5'⟩|⟨h3',h4',h5',h6',h7'⟩
    ·rw[τ2]at f2
     rw[h5']at p2
     rw[i1.tokInj t t' n n' k k' b h4 h4' f1 f2 p1 p2 p3 p4]
    ·rw[h7']at f2
     rw[h6']at p2
     exact absurd (uTok h5' h3' f2 p2 p4) (tok1 h4 f1 p1 p3)
   ·rw[h7]at f1
    rw[h6]at p1
    rcases tokA e' with ⟨t',h3',rfl,h4',h5'⟩|⟨h3',h4',h5',h6',h7'⟩
    ·rw[τ2]at f2
     rw[h5']at p2
     exact absurd (uTok h5 h3 f1 p1 p3) (tok1 h4' f2 p2 p4)
    ·rw[h7']at f2
     rw[h6']at p2
     exact i.tokInj y y' n n' k k' b h5 h5' f1 f2 p1 p2 p3 p4
  ·have hy':H.nl+(nl'-bs.length)<=y:=hy
   rcases xB y with ⟨l,rfl⟩|⟨_,_,h2,_⟩
   ·rw[μ2]
    refine i1.frL l ?_
    show nl'<=l
    rcases Nat.lt_or_ge l bs.length with hl|hl
    ·have:=hbm _ (fbMem hl);omega
    ·rw[<-hfb,wp hl]at hy';omega
   ·omega
  ·have hy':H.nt+(nt'-ts.length)<=y:=hy
   rcases xT y with ⟨l,rfl⟩|⟨_,_,h2,_⟩
   ·rw[τ2]
    refine i1.frT l ?_
    show nt'<=l
    rcases Nat.lt_or_ge l ts.length with hl|hl
    ·have:=htm _ (ftMem hl);omega
    ·rw[<-hft,wp hl]at hy';omega
   ·omega
  ·have hy':H.nt+(nt'-ts.length)<=y:=hy
   show qd8 H.vw (rnm ts H.nt) vw' nt' y=none
   rw[hft]
   rw[uc (fun j hj e=> ?_)]
   ·exact i.frV y (by omega)
   ·rcases Nat.lt_or_ge j ts.length with hl|hl
    ·have:=htm _ (ftMem hl);omega
    ·rw[<-hft,wp hl]at e;omega
 exact⟨x,g2,h1,R.ren fmap d x a2.p h2,i2,⟨le,fun a u h=>by
  rcases σnew a u h with h8|h8
  ·exact .inl h8
  ·exact .inr fun hu=>h8 (.inl hu)⟩,⟨kp.os,kp.tape,kp.output,kp.size,fun b hb=>kp.block b (.inl hb),kp.defs⟩⟩
theorem StLe.layOwn[Lay]{N:Nat}{sl:qu}{h:Heap}(t:Nat){cs:List D}(hl:qo sl t=some (.own cs))(hn:(sl.all fun x=> !xf x.2 t)=true):StLe N ⟨sl,h⟩ ⟨vh sl t (.ep cs),h⟩:=by
 intro g β U a w r
 obtain⟨⟨T,vals,e1,e1'⟩,e2,e3,e4,e5⟩:=r.own t cs hl
 have e1':Rs g cs vals.toList:=e1'
 have i:=r.inv
 let g':G:={g with σ:=fun x=>if x.block=β t/\x.spot=none then vals[x.off]? else g.σ x}
 have le:G.le g g':=by
  refine⟨fun x v e=> ?_,fun _ _ e=>e,fun _ k e=>⟨k,e,rfl,Nat.le_refl _,fun _=>rfl⟩⟩
  show(if _ then _ else _)=_
  rw[if_neg (fun hh=>e3 x v e hh.1)];exact e
 have σold:∀{x:Addr} {v:Value},g'.σ x=some v->(x.block=β t/\x.spot=none/\vals[x.off]? = some v)\/g.σ x=some v:=by
  intro x v e
  have e':(if x.block=β t/\x.spot=none then vals[x.off]? else g.σ x)=some v:=e
  split at e'
  ·rename_i hc;exact .inl ⟨hc.1,hc.2,e'⟩
  ·exact .inr e'
 have i':Inv g' U h w:=by
  refine⟨fun x v e=> ?_,i.ub,i.muLt,fun l row e=> ?_,i.boxInj,fun t' m e=> ?_,i.tokBox,i.tokInj,i.frL,i.frT,i.frV,i.ltab.mono le⟩
  ·rcases σold e with ⟨h1,h2,h3⟩|h1
   ·exact⟨by simp only[World.cell?,h1,e1,h2];simpa using h3,h2⟩
   ·exact i.sub x v h1
  ·obtain⟨b,f1,f2,f3,f4⟩:=i.box l row e
   refine⟨b,f1,f2.mono le rfl,f3,fun x v hh=> ?_⟩
   rcases σold hh with ⟨h1,_⟩|h1
   ·intro h2
    exact e4 l (by rw[e];simp) (by rw[f1,<-h2,h1])
   ·exact f4 x v h1
  ·obtain⟨k,f1,f2,f3⟩:=i.tok t' m e
   refine⟨k,f1,f2,fun ha=>(f3 ha).mono le fun b hb _=>⟨rfl,fun j hj=> ?_⟩⟩
   show(if _ then _ else _)=_
   rw[if_neg (fun hh=>e5 t' m k e f1 ha (by rw[hb,<-hh.1]))];exact hj
 have hR:R g' (.ep cs) (a.tmps.getD t undef):=by
  have h1:=r.slot t _ hl
  simp only[RS]at h1
  rw[h1]
  simp only[R]
  refine⟨⟨β t,0,none⟩,vals.toList,rfl,rfl,Rs.mono le _ _ e1',fun j hj=> ?_⟩
  show(if _ then _ else _)=_
  simp
 have noLp:∀s d,qo sl s=some d->xf d t=false:=fun s d hs=>by
  have:=List.all_eq_true.1 hn _ (yy hs)
  simpa using this
 refine⟨g',β,⟨r.defers,r.size,by rw[xx];exact r.keys,fun s e hs=> ?_,fun s e u hs hlive hb=> ?_,fun s c hs=> ?_,fun s s' c c' hs hs'=> ?_,i'⟩,⟨le,fun x v hh=> ?_⟩⟩
 ·rcases qr _ _ _ _ _ hs with ⟨rfl,rfl,_⟩|⟨_,h2⟩
  ·exact RS.ofRS0 (RS0.ofR hR) rfl
  ·exact(r.slot s e h2).mono le
 ·rcases qr _ _ _ _ _ hs with ⟨rfl,rfl,_⟩|⟨_,h2⟩
  ·cases hb
  ·obtain⟨c,hc⟩:=r.base s e u h2 hlive hb
   have hne:u≠t:=fun hh=>by
    subst hh
    have:=noLp s e h2
    rw[yi hb]at this;cases this
   exact⟨c,yf hne hc⟩
 ·rcases qr _ _ _ _ _ hs with ⟨rfl,h2,_⟩|⟨hne,h2⟩
  ·cases h2
  ·obtain⟨f1,f2,f3,f4,f5⟩:=r.own s c h2
   refine⟨f1.mono le rfl,f2,fun x v hh hb=> ?_,f4,f5⟩
   rcases σold hh with ⟨h1,_⟩|h1
   ·exact hne (r.ownInj s t _ _ h2 hl (by rw[<-hb,h1]))
   ·exact f3 x v h1 hb
 ·rcases qr _ _ _ _ _ hs with ⟨rfl,h2,_⟩|⟨_,h2⟩
  ·cases h2
  ·rcases qr _ _ _ _ _ hs' with ⟨rfl,h3,_⟩|⟨_,h3⟩
   ·cases h3
   ·exact r.ownInj s s' c c' h2 h3
 ·rcases σold hh with ⟨h1,_⟩|h1
  ·exact .inr (by rw[h1];exact e2)
  ·exact .inl h1
theorem RetLe.idle[Lay]{h:Heap}{z:Nat}{q:Nat->D}(c:Option (Nat->D))(sz:Nat)(f:Nat->D):RetLe (.list 0 z q .full) h (qf0 h c sz f) (qkd h c):=fun g U w x hr i=>by
 have r:Rel 0 g (fun _=>0) U noY ⟨[],h⟩ {tmps:= #[],defers:=[]} w:=⟨DefOk.nil U w,rfl,List.nodup_nil,fun _ _ h=>(by cases h),fun _ _ _ h=>(by cases h),fun _ _ h=>(by cases h),fun _ _ _ _ h=>(by cases h),i⟩
 obtain⟨g',r1,gr,_,hR⟩:=r.idle x hr sz f c
 exact⟨g',hR,r1.inv,gr⟩
theorem od(f g:Nat->D):zo 0 f g=g:=by
 funext i
 have:Nat.blt i 0=false:=by rw[<-Bool.not_eq_true,Nat.blt_eq];omega
 simp[zo,this]
theorem qbg(f:Nat->D):jx f 0=f:=by
 funext i;simp[jx]
def zn{α:Type}[Inhabited α](es:List α)(enc:α->D):Heap:=⟨fun _=>none,0,upd (fun _=>none) 0 (some es.length),1,upd (fun _=>none) 0 (some (cv es enc))⟩
theorem Pure.lay[Lay]{P:Program}{f:Nat}{as args:List D}{v:D}{h:Heap}{t n:Nat}{q:Nat->D}(p:Pure P f as v)(hv:h.vw t=some q)(hn:h.hw t=some n)(ho:pd t n args)(hw:Wks (n8 t q args) as):Does P f args h v (qgh h t) :=
 Does.of_calls p.ok fun g U w vs i hs=>by
  obtain⟨g',h1,h2,h3,_⟩:=i.freeze hv hn
  have hs':Rs g' as vs:=hw _ _ (Rs.frz h2.le h3 args vs ho hs)
  refine Calls.mono (p.calls g' w vs h1.ltab h1.sub hs') fun e w' ⟨x,σ',e1,e2,e3,e4,e5,e6⟩=> ?_
  have ex:Ext g' w ⟨σ',g'.μ,g'.τ⟩ w':=⟨⟨e3,fun _ _ h=>h,fun _ k h=>⟨k,h,rfl,Nat.le_refl _,fun _=>rfl⟩⟩,rfl,rfl,e5,e4,e6⟩
  exact⟨x,_,e1,e2,h1.ext ex,h2.trans (ex.grow h1.ub),ex.kept h1.ub⟩
theorem Wk.listW{n n' sz sz':Nat}{f f':Nat->D}{own own':Own}(hn:n=n')(hs:sz=sz'\/n=0)(hf:∀i,i<n->Wk (f i) (f' i)/\(ones (f i)=true->ones (f' i)=true))(ho:own' = .none\/own'=own):Wk (.list n sz f own) (.list n' sz' f' own'):=by
 subst hn
 intro g v hr
 simp only[R]at hr⊢
 obtain⟨h1,a,cap,h2,h3,h4,h5⟩:=hr
 refine⟨h1,a,cap,h2,h3,?_,fun i hi=> ?_⟩
 ·rcases ho with rfl|rfl
  ·trivial
  ·exact h4
 ·obtain⟨p,u,e1,e2,e3,e4,e5⟩:=h5 i hi
  have hss:sz=sz':=by rcases hs with h|h;exact h;omega
  subst hss
  exact⟨p,u,e1,e2,(hf i hi).1 _ _ e3,⟨e4.1,(hf i hi).2 e4.2⟩,e5⟩
theorem Wk.snocW{α:Type}[Inhabited α]{a:List α}{x:α}{sz t:Nat}{enc:α->D}{d:D}(h:Wk d (enc x))(h1:ones (enc x)=true):Wk (.list (a.length+1) sz (zo a.length (fun i=>enc (a.getD i default)) (zf [d])) (.tok t sz)) (LT (a++[x]) sz enc t):=by
 refine Wk.listW (by simp) (.inl rfl) (fun i hi=> ?_) (.inr rfl)
 unfold zo
 rcases Nat.lt_or_ge i a.length with hl|hl
 ·rw[up.2 hl]
  simp only[cond_true,List.getD_eq_getElem?_getD,List.getElem?_append_left hl]
  exact⟨Wk.refl _,fun h=>h⟩
 ·have:i=a.length:=by omega
  subst this
  rw[tp.2 (Nat.le_refl _)]
  simp only[cond_false,Nat.sub_self,zf,List.getD_cons_zero]
  simp only[List.getD_eq_getElem?_getD,List.getElem?_append_right (Nat.le_refl _),Nat.sub_self,List.getElem?_cons_zero,Option.getD_some]
  exact⟨h,fun _=>h1⟩
def hN(n N:Nat):Heap:=⟨fun _=>none,0,upd (fun _=>none) 0 (some n),N,fun _=>none⟩
theorem StLe.cast[Lay]{n:Nat}{a b b':St}(h:StLe n a b)(e:b=b'):StLe n a b':=e▸h
def qca(h:Heap)(l:Nat):Heap:={h with box:=upd h.box l none}
def hOn(h:Heap)(l:Nat)(r:qai)(j:Option Code):Heap:={h with box:=upd h.box l (some (.loop r j))}
def qrj(h:Heap)(r:qai):Heap:={h with box:=upd h.box h.nl (some (.loop r none)),nl:=h.nl+1}
def qol:Option Code->Bool
 |some (.rangeFunc _ _ _ _)=>true
 |_=>false
def rfG:Option Code->Operand
 |some (.rangeFunc g _ _ _)=>g
 |_=> .const (.bool true)
def rfP:Option Code->Array Tmp
 |some (.rangeFunc _ ps _ _)=>ps
 |_=> #[]
def rfA:Option Code->Code
 |some (.rangeFunc _ _ a _)=>a
 |_=> .skip
def rfB:Option Code->Code
 |some (.rangeFunc _ _ _ b)=>b
 |_=> .skip
def pg(E:Env)(p:List Nat)(sl:qu):qai:=⟨E.nt,rfP (sub E.root p),rfA (sub E.root p),rfB (sub E.root p),sl⟩
theorem qom{c:Option Code}(h:qol c=true):c=some (.rangeFunc (rfG c) (rfP c) (rfA c) (rfB c)):=by
 unfold qol at h
 split at h
 ·rfl
 ·cases h
def w6:List Nat->qu->qu
 | [],_=>[]
 |t::r,sl=>match qo sl t with
  |some d=>bif isD d then(t,d)::w6 r sl else w6 r sl
  |none=>w6 r sl
def oe(sl:qu):List Nat->List D->qu
 |t::ts,d::ds=>oe (put sl t d) ts ds
 |_,_=>sl
theorem qhg{s t:Nat}{d:D}{r:qu}{e:D}(h:qo ((s,d)::r) t=some e):(s=t/\d=e)\/(s≠t/\qo r t=some e):=by
 simp only[qo]at h
 cases hb:Nat.beq s t with
 |true=>rw[hb]at h;exact .inl ⟨qq.1 hb,by simpa using h⟩
 |false=>rw[hb]at h;exact .inr ⟨xn.1 hb,h⟩
theorem ud:∀{l:List Nat} {sl:qu} {t:Nat} {d:D},qo (w6 l sl) t=some d->qo sl t=some d/\isD d=true
 | [],_,_,_,h=>by cases h
 |s::r,sl,t,d,h=>by
  unfold w6 at h
  split at h
  ·rename_i e he
   cases hd:isD e with
   |false=>rw[hd]at h;exact ud (l:=r) h
   |true =>
    rw[hd]at h
    rcases qhg h with ⟨rfl,rfl⟩|⟨_,h2⟩
    ·exact⟨he,hd⟩
    ·exact ud (l:=r) h2
  ·exact ud (l:=r) h
theorem ik:∀{l:List Nat},np l=true->l.Nodup
 | [],_=>List.nodup_nil
 |t::r,h=>by
  simp only[np,Bool.and_eq_true,Bool.not_eq_true']at h
  refine List.nodup_cons.2 ⟨fun hm=> ?_,ik h.2⟩
  have:r.any (Nat.beq t)=true:=List.any_eq_true.2 ⟨t,hm,by simp⟩
  rw[h.1]at this;cases this
section
variable {n:Nat} {g:G} {β:Nat->Nat} {U:Nat->Prop} {y:Nat->Bool->Prop} {st:St} {a:Act} {w:World}
theorem w7{w:World}{b:Nat}{r:Loop}(h:w.heap[b]? = some (.loop r)):∀vals T z,w.heap[b]? ≠some (.cells vals T z):=fun _ _ _ e=>by rw[h]at e;cases e
theorem Turn0.keptL{b:Nat}{w w':World}(t:Turn0 b w w')(hu:¬U b){r:Loop}(h:w.heap[b]? = some (.loop r)):Kept U w w' :=
 ⟨t.os,t.tape,t.output,by rw[t.size];exact Nat.le_refl _,fun k hk=>t.other k fun e=>hu (e▸hk),fun k hk=>(t.other k fun e=>by subst e;rw[h]at hk;cases hk).trans hk⟩
theorem Kept.lessU{U':Nat->Prop}{w w':World}(h:Kept U w w')(hu:∀b,U' b->U b):Kept U' w w':=⟨h.os,h.tape,h.output,h.size,fun b hb=>h.block b (hu b hb),h.defs⟩
theorem HeapLe.off(h:Heap)(l:Nat):HeapLe h (qca h l):=by
 refine⟨fun l' row' e=> ?_,Nat.le_refl _,fun _ _ e=>e,Nat.le_refl _,fun _ _ _=>VwLe.refl _ _,fun _ h=>h⟩
 have e':upd h.box l none l'=some row':=e
 by_cases hx:l'=l
 ·subst hx;rw[qb]at e';cases e'
 ·rw[qd _ _ hx]at e'
  exact⟨row',e',RowLe.refl row'⟩
theorem qc2{h:Heap}{l l':Nat}(e:(qca h l).box l'≠none):l'≠l/\h.box l'≠none:=by
 have e':upd h.box l none l'≠none:=e
 by_cases hx:l'=l
 ·subst hx;rw[qb]at e';exact absurd rfl e'
 ·rw[qd _ _ hx]at e';exact⟨hx,e'⟩
theorem Rel.off[Lay](r:Rel n g β U y st a w)(l:Nat):Rel n g β U y {st with h:=qca st.h l} a w :=
 ⟨r.defers,r.size,r.keys,r.slot,r.base,fun t cs e=>by
  obtain⟨e1,e2,e3,e4,e5⟩:=r.own t cs e
  exact⟨e1,e2,e3,fun l' hl=>e4 l' (qc2 hl).2,e5⟩,r.ownInj,r.inv.le (HeapLe.off _ l)⟩
theorem Inv.offU[Lay]{h:Heap}(i:Inv g U h w){l b:Nat}{q:qai}{j:Option Code}(hl:h.box l=some (.loop q j))(hb:g.μ l=some b):Inv g (fun k=>U k\/k=b) (qca h l) w:=by
 obtain⟨b',e1,e2,e3,e4⟩:=i.box l _ hl
 rw[hb]at e1;cases e1
 have hlt:=e2.lt
 obtain⟨_,_,_,hlp,_⟩:=e2
 have i':=i.le (HeapLe.off h l)
 refine⟨i'.sub,fun k hk=>Or.elim hk (i.ub k) (fun e=>by subst e;exact hlt),i'.muLt,fun l' row e=> ?_,i'.boxInj,fun t m e=> ?_,i'.tokBox,i'.tokInj,i'.frL,i'.frT,i'.frV,i'.ltab⟩
 ·obtain⟨c,f1,f2,f3,f4⟩:=i'.box l' row e
  have hx:=qc2 (by rw[e];simp:(qca h l).box l'≠none)
  exact⟨c,f1,f2,fun hu=>Or.elim hu f3 (fun hc=>by subst hc;exact hx.1 (i.boxInj l' l _ hx.2 (by rw[hl];simp) f1 hb)),f4⟩
 ·obtain⟨k,f1,f2,f3⟩:=i'.tok t m e
  refine⟨k,f1,f2,fun ha=> ?_⟩
  obtain⟨c,c1,c2,T,vals,c3,c4⟩:=f3 ha
  exact⟨c,c1,fun hu=>Or.elim hu c2 (fun hc=>by subst hc;obtain⟨_,c3,_⟩:=c3;rw[hlp]at c3;cases c3),T,vals,c3,c4⟩
theorem Inv.onU[Lay]{h:Heap}{l b:Nat}{q:qai}{j:Option Code}(i:Inv g (fun k=>U k\/k=b) h w)(hb:g.μ l=some b)(hu:¬U b)(hr:RowAt g w b (.loop q j)):Inv g U (hOn h l q j) w:=by
 have i':=i.lessU (U':=U) fun _ h=> .inl h
 have hr':=hr
 obtain⟨_,_,_,hlp,_⟩:=hr'
 have hno:∀l' row,h.box l'=some row->g.μ l'≠some b:=fun l' row e e1=>by
  obtain⟨c,f1,_,f3,_⟩:=i.box l' row e
  rw[e1]at f1;cases f1
  exact f3 (.inr rfl)
 have hno':∀l',h.box l'≠none->g.μ l'≠some b:=fun l' e=>by
  cases hx:h.box l' with
  |none=>exact absurd hx e
  |some row=>exact hno l' row hx
 refine⟨i'.sub,i'.ub,i'.muLt,fun l' row e=> ?_,fun l1 l2 c e e' e1 e2=> ?_,i'.tok,fun t m k c l' e e1 e2 e3 e4 e5=> ?_,i'.tokInj,i'.frL,i'.frT,i'.frV,i'.ltab⟩
 ·have e':upd h.box l (some (.loop q j)) l'=some row:=e
  by_cases hx:l'=l
  ·subst hx
   rw[qb]at e';cases e'
   exact⟨b,hb,hr,hu,fun a v hv hab=>by obtain⟨vals,T,z,hc⟩:=cells_of_cell? (i.sub a v hv).1;rw[hab]at hc;exact w7 hlp _ _ _ hc⟩
  ·rw[qd _ _ hx]at e'
   exact i'.box l' row e'
 ·have f:∀l',upd h.box l (some (.loop q j)) l'≠none->l'=l\/(l'≠l/\h.box l'≠none):=fun l' hh=>by
   by_cases hx:l'=l
   ·exact .inl hx
   ·rw[qd _ _ hx]at hh;exact .inr ⟨hx,hh⟩
  rcases f l1 e with rfl|⟨h1,h2⟩ <;> rcases f l2 e' with rfl|⟨h3,h4⟩
  ·rfl
  ·rw[hb]at e1;cases e1;exact absurd e2 (hno' _ h4)
  ·rw[hb]at e2;cases e2;exact absurd e1 (hno' _ h2)
  ·exact i'.boxInj l1 l2 c h2 h4 e1 e2
 ·by_cases hx:l'=l
  ·subst hx
   rw[hb]at e5;cases e5
   obtain⟨k',f1,f2,f3⟩:=i.tok t m e
   rw[e1]at f1;cases f1
   obtain⟨c',c1,c2,_⟩:=f3 e2
   rw[e3]at c1;cases c1
   exact c2 (.inr rfl)
  ·have e4':upd h.box l (some (.loop q j)) l'≠none:=e4
   rw[qd _ _ hx]at e4'
   exact i'.tokBox t m k c l' e e1 e2 e3 e4' e5
theorem qke[Lay]{sl:qu}{h:Heap}{tmps:Array Value}(i:Inv g U h w)(hs:tmps.size=n)(hk:(sl.map (·.1)).Nodup)(hd:∀t d,qo sl t=some d->R g d (tmps.getD t undef)):Rel n g β U noY ⟨sl,h⟩ {tmps:=tmps,defers:=[]} w :=
 ⟨DefOk.nil U w,hs,hk,fun t d h=>RS.ofRS0 (RS0.ofR (hd t d h)) (jq (hd t d h).isD),fun t d s h _ hb=>absurd hb ((hd t d h).noOwn.2.2 s),fun t cs h=>absurd rfl ((hd t _ h).noOwn.1 cs),fun t _t' cs _cs' h=>absurd rfl ((hd t _ h).noOwn.1 cs),i⟩
theorem l0[Lay]:∀(ps:List Nat) (ds:List D) (vs:List Value) (sl:qu) (h:Heap) (tmps:Array Value),(∀t∈ps,t<n)->Rs g ds vs->Rel n g β U noY ⟨sl,h⟩ {tmps:=tmps,defers:=[]} w ->
  Rel n g β U noY ⟨oe sl ps ds,h⟩ {tmps:=(ps.zip vs).foldl (fun tmps (x:Nat×Value)=>tmps.setIfInBounds x.1 x.2) tmps,defers:=[]} w
 | [],ds,vs,sl,h,tmps,_,_,r=>by cases ds <;> exact r
 |t::ts,[],vs,sl,h,tmps,_,hs,r=>by
  simp only[Rs]at hs;subst hs
  exact r
 |t::ts,d::ds,vs,sl,h,tmps,ht,hs,r=>by
  simp only[Rs]at hs
  obtain⟨v,vs',rfl,hv,hs'⟩:=hs
  have r1:=r.put (y':=noY) (t:=t) (d:=d) (v:=v) (ht t (List.mem_cons_self ..)) (RS.ofRS0 (RS0.ofR hv) (jq hv.isD)) hv.noOwn.1 (fun _ s hs=>absurd hs (hv.noOwn.2.2 s)) (fun _ _ _ _ _ _ h=>h)
  exact l0 ts ds vs' (put sl t d) h _ (fun s hs=>ht s (List.mem_cons_of_mem _ hs)) hs' r1
end
theorem n9{P:Program}{w:World}(fn:FuncId)(tmps:Array Value)(ps:Array Tmp)(assign body:Code){q:Nat}{r:Loop}(h:w.heap[q]? = some (.loop r)) :
  (Instr.enterLoop fn tmps ps assign body (some q)).run P w = .ok (w.heap.size,[]) (w.alloc (.loop {state:= .ready,pending:=none,fn,tmps,params:=ps,assign,body,defers:=r.defers})):=by
 unfold Instr.enterLoop
 simp only[Sem.run_bind,run_newObj_alloc,run_getLoop h,Result.andThen,Sem.run_pure]
section
variable {E:Env} {p:List Nat}
theorem qkf[Lay](hs:qol (sub E.root p)=true){sl:qu}{l:Nat}{h:Heap}{args:List D}{K:D->Heap->Prop}(hb:h.box l=some (.loop (pg E p sl) none))
  (hp:(Nat.beq (rfP (sub E.root p)).toList.length args.length&&(rfP (sub E.root p)).toList.all (Nat.blt · E.nt))=true) (hk:np (sl.map (·.1))=true)
  (hA:At E (fun _=>False) [.code (p++[0]),.stop fun st1=>At E (fun st2=>K (.bool false) (hOn st2.h l (pg E p sl) (some .ret))) [.code (p++[1]),.stop fun st2=>K (.bool true) (hOn st2.h l (pg E p sl) none)] st1]
   ⟨oe sl (rfP (sub E.root p)).toList args,qca h l⟩):CallY E.P l args h K:=by
 simp only[Bool.and_eq_true]at hp
 have hpl:=qq.1 hp.1
 have hpa:∀t∈(rfP (sub E.root p)).toList,t<E.nt:=fun t ht=>by have:=List.all_eq_true.1 hp.2 t ht;exact Nat.le_of_ble_eq_true this
 have hrf:=qom hs
 refine⟨fun g U w vs b i hvs hmu=> ?_⟩
 obtain⟨b',e1,e2,e3,e4⟩:=i.box l _ hb
 rw[hmu]at e1;cases e1
 obtain⟨fn,tmps,dfr,e5,e6,e7⟩:=e2
 have hvl:=hvs.length
 refine⟨_,e5,by simp only[pg,List.size_toArray];rw[hvl,<-hpl];simp,fun ρ=>roundIn_of_wpIn trivial ?_⟩
 let Ub:Nat->Prop:=fun k=>U k\/k=b
 have i0:Inv g Ub (qca h l) w:=i.offU hb hmu
 have hfold:((rfP (sub E.root p)).zip vs.toArray).foldl (fun tmps (x:Tmp×Value)=>tmps.setIfInBounds x.1 x.2) tmps=((rfP (sub E.root p)).toList.zip vs).foldl (fun tmps (x:Nat×Value)=>tmps.setIfInBounds x.1 x.2) tmps:=by
  rw[<-Array.foldl_toList,Array.toList_zip]
 have r0:Rel E.nt g (fun _=>0) Ub noY ⟨oe sl (rfP (sub E.root p)).toList args,qca h l⟩ {tmps:=((rfP (sub E.root p)).zip vs.toArray).foldl (fun tmps (x:Tmp×Value)=>tmps.setIfInBounds x.1 x.2) tmps,defers:=[]} w:=by
  rw[hfold]
  exact l0 _ _ _ _ _ _ hpa hvs (qke i0 e6 (ik hk) e7)
 have ok0:ROk (some b) Ub w:=fun q hq=>by cases hq;exact⟨.inr rfl,_,e5⟩
 obtain⟨c,hc,hw⟩:=hA.it
 rw[jr,hrf]at hc
 have hcx:rfA (sub E.root p)=c:=by simpa[sub] using hc
 subst hcx
 refine wpIn_mono (hw (some b) g _ Ub _ w ok0 r0) fun e a₁ w₁ ⟨ex,g1,β1,st1,h1,r1,gr1,k1,hq⟩=> ?_
 subst h1
 cases ex with
 |exit i=>exact hq.elim
 |ret=>exact hq.elim
 |normal =>
  have hb1:=(k1.block b (.inr rfl)).trans e5
  refine⟨_,run_beginRound hb1 rfl,?_⟩
  have t1:=y0 w₁ b (.loop {state:= .busy,pending:=none,fn:=fn,tmps:=tmps,params:=rfP (sub E.root p),assign:=rfA (sub E.root p),body:=rfB (sub E.root p),defers:=dfr})
  have hnoU:∀{g':G} {h':Heap} {w':World},Inv g' Ub h' w'->∀l',h'.box l'≠none->g'.μ l'≠some b:=fun{g' h' w'} i' l' e e1=>by
   cases hx:h'.box l' with
   |none=>exact e hx
   |some row =>
    obtain⟨c,f1,_,f3,_⟩:=i'.box l' row hx
    rw[e1]at f1;cases f1
    exact f3 (.inr rfl)
  have hd1:DefOk Ub a₁.defers (w₁.putObj b (.loop {state:= .busy,pending:=none,fn:=fn,tmps:=tmps,params:=rfP (sub E.root p),assign:=rfA (sub E.root p),body:=rfB (sub E.root p),defers:=dfr})):=by
   obtain⟨bs,f1,f2,f3⟩:=r1.defers
   exact⟨bs,f1,f2,fun k hk=>⟨(t1.other k fun e=>(f3 k hk).2 (.inr e)).trans (f3 k hk).1,(f3 k hk).2⟩⟩
  have r1':=r1.noCells t1 (w7 hb1) (hnoU r1.inv) hd1
  have hb2:(w₁.putObj b (.loop {state:= .busy,pending:=none,fn:=fn,tmps:=tmps,params:=rfP (sub E.root p),assign:=rfA (sub E.root p),body:=rfB (sub E.root p),defers:=dfr})).heap[b]? = some (.loop {state:= .busy,pending:=none,fn:=fn,tmps:=tmps,params:=rfP (sub E.root p),assign:=rfA (sub E.root p),body:=rfB (sub E.root p),defers:=dfr}) :=
   World.putObj_heap_same (jg hb1)
  have ok2:ROk (some b) Ub (w₁.putObj b (.loop {state:= .busy,pending:=none,fn:=fn,tmps:=tmps,params:=rfP (sub E.root p),assign:=rfA (sub E.root p),body:=rfB (sub E.root p),defers:=dfr})):=fun q hq=>by cases hq;exact⟨.inr rfl,_,hb2⟩
  have hq1:At E (fun st2=>K (.bool false) (hOn st2.h l (pg E p sl) (some .ret))) [.code (p++[1]),.stop fun st2=>K (.bool true) (hOn st2.h l (pg E p sl) none)] st1:=hq
  obtain⟨c2,hc2,hw2⟩:=hq1.it
  rw[jr,hrf]at hc2
  have hcx2:rfB (sub E.root p)=c2:=by simpa[sub] using hc2
  subst hcx2
  refine wpIn_mono (hw2 (some b) g1 β1 Ub _ _ ok2 r1') fun e' a₂ w₃ ⟨ex2,g2,β2,st2,h2,r2,gr2,k2,hq2⟩=> ?_
  subst h2
  have hb3:=(k2.block b (.inr rfl)).trans hb2
  have hmu2:g2.μ l=some b:=gr2.le.μ _ _ (gr1.le.μ _ _ hmu)
  have fin:∀(j:Option Code) (w₄:World),w₄=w₃.putObj b (.loop {state:=if j.isNone then .ready else .done,pending:=j,fn:=fn,tmps:=tmps,params:=rfP (sub E.root p),assign:=rfA (sub E.root p),body:=rfB (sub E.root p),defers:=dfr})->
    Inv g2 U (hOn st2.h l (pg E p sl) j) w₄/\Grow U g g2/\Kept U w w₄:=fun j w₄ hw4=>by
   subst hw4
   have t3:=y0 w₃ b (.loop {state:=if j.isNone then .ready else .done,pending:=j,fn:=fn,tmps:=tmps,params:=rfP (sub E.root p),assign:=rfA (sub E.root p),body:=rfB (sub E.root p),defers:=dfr})
   have i3:=r2.inv.noCells t3 (w7 hb3) (hnoU r2.inv)
   refine⟨i3.onU hmu2 e3 ⟨fn,tmps,dfr,World.putObj_heap_same (jg hb3),e6,fun t d ht=>R.mono (gr1.le.trans gr2.le) _ _ (e7 t d ht)⟩,(gr1.trans gr2).lessU fun _ h=> .inl h,?_⟩
   exact(((k1.lessU fun _ h=> .inl h).trans (t1.keptL e3 hb1)).trans (k2.lessU fun _ h=> .inl h)).trans (t3.keptL e3 hb3)
  cases ex2 with
  |exit i=>exact hq2.elim
  |normal =>
   obtain⟨f1,f2,f3⟩:=fin none _ rfl
   exact⟨_,_,run_endRound none hb3,.bool true,g2,.bool true,_,rfl,by simp only[R],f1,f2,f3,hq2⟩
  |ret =>
   obtain⟨f1,f2,f3⟩:=fin (some .ret) _ rfl
   exact⟨_,_,run_endRound (some .ret) hb3,.bool false,g2,.bool false,_,rfl,by simp only[R],f1,f2,f3,hq2⟩
end
section
variable {n:Nat} {g:G} {β:Nat->Nat} {U:Nat->Prop} {y:Nat->Bool->Prop} {st:St} {a:Act} {w:World}
theorem Rel.newRow[Lay](r:Rel n g β U y st a w){w1:World}{b:Nat}{row:Row}(hx:RowKit.Below w.heap.size w w1)(hb:w.heap.size<=b)(hb1:b<w1.heap.size)(hrow:RowAt (ji g st.h.nl b) w1 b row){ds:List Deferred}(hds:DefOk U ds w1) :
  Rel n (ji g st.h.nl b) β U y {st with h:={st.h with box:=upd st.h.box st.h.nl (some row),nl:=st.h.nl+1}} {a with defers:=ds} w1:=by
 have hnone:=r.inv.frL st.h.nl (Nat.le_refl _)
 have le:=kh (b:=b) hnone
 have hext:Ext g w g w1:=⟨G.le.refl g,rfl,rfl,fun _ _ e=> .inl e,fun a v e=>⟨(cell?_of_heap (hx.block a.block (r.inv.cellLt e))).trans (r.inv.sub a v e).1,(r.inv.sub a v e).2⟩,hx⟩
 have r1:=r.ext hext
 refine⟨hds,r1.size,r1.keys,fun t d h=>(r1.slot t d h).mono le,r1.base,fun t cs h=> ?_,r1.ownInj,?_⟩
 ·obtain⟨h1,h2,h3,h4,h5⟩:=r1.own t cs h
  refine⟨h1.mono le rfl,h2,h3,fun l hl e=> ?_,h5⟩
  by_cases hx:l=st.h.nl
  ·subst hx
   simp only[ji,qb,Option.some.injEq]at e
   have:=(r.own t cs h).1.lt;omega
  ·simp only[ji,qd _ _ hx]at e hl
   exact h4 l hl e
 ·have i:=r1.inv
  refine⟨i.sub,i.ub,fun l b' e=> ?_,fun l row' e=> ?_,fun l l' b' e e' e1 e2=> ?_,fun t m e=> ?_,fun t m k b' l e e1 e2 e3 e4 e5=> ?_,i.tokInj,fun l hl=> ?_,i.frT,i.frV,i.ltab⟩
  ·by_cases hx:l=st.h.nl
   ·subst hx
    simp only[ji,qb,Option.some.injEq]at e
    subst e;exact hb1
   ·simp only[ji,qd _ _ hx]at e
    exact i.muLt l b' e
  ·have e':upd st.h.box st.h.nl (some row) l=some row':=e
   clear e
   by_cases hx:l=st.h.nl
   ·subst hx
    simp only[qb,Option.some.injEq]at e'
    subst e'
    refine⟨b,by simp[ji,qb],hrow,fun hu=>absurd (r.inv.ub _ hu) (by omega),fun x v hv=> ?_⟩
    have:=r.inv.cellLt hv;omega
   ·rw[qd _ _ hx]at e'
    obtain⟨b',e1,e2,e3,e4⟩:=i.box l row' e'
    exact⟨b',by simp only[ji,qd _ _ hx];exact e1,e2.mono le rfl,e3,e4⟩
  ·by_cases hx:l=st.h.nl
   ·subst hx
    simp only[ji,qb,Option.some.injEq]at e1
    by_cases hx':l'=st.h.nl
    ·exact hx'.symm
    ·simp only[ji,qd _ _ hx']at e2
     have:=r.inv.muLt l' b' e2;omega
   ·simp only[qd _ _ hx]at e
    simp only[ji,qd _ _ hx]at e1
    by_cases hx':l'=st.h.nl
    ·subst hx'
     simp only[ji,qb,Option.some.injEq]at e2
     have:=r.inv.muLt l b' e1;omega
    ·simp only[ji,qd _ _ hx']at e2
     exact i.boxInj l l' b' e (by simpa only[qd _ _ hx'] using e') e1 e2
  ·obtain⟨k,e1,e2,e3⟩:=i.tok t m e
   exact⟨k,e1,e2,fun hk=>(e3 hk).mono le fun _ _ _=>⟨rfl,fun _ h=>h⟩⟩
  ·by_cases hx:l=st.h.nl
   ·subst hx
    simp only[ji,qb,Option.some.injEq]at e5
    obtain⟨k',f1,f2,f3⟩:=r.inv.tok t m e
    have e1':g.τ t=some k:=e1
    have:k'=k:=by rw[f1]at e1';cases e1';rfl
    subst this
    obtain⟨b'',g1,g2,_⟩:=(f3 e2).blockLt
    rw[g1]at e3;simp at e3
   ·simp only[qd _ _ hx]at e4
    simp only[ji,qd _ _ hx]at e5
    exact i.tokBox t m k b' l e e1 e2 e3 e4 e5
  ·simp only[ji]
   have hl':st.h.nl+1<=l:=hl
   rw[qd _ _ (by omega)]
   exact i.frL l (by omega)
theorem below_two{w:World}{o o':Obj}:RowKit.Below w.heap.size w ((w.alloc o).alloc o') :=
 ⟨rfl,rfl,rfl,by simp only[World.size_alloc];omega,fun k hk=>by
  have h1:k<(w.alloc o).heap.size:=by simp only[World.size_alloc];omega
  rw[j7 _ _ h1,j7 _ _ hk]⟩
end
section
variable {E:Env} {fin:St->Prop} {p:List Nat}
theorem qhh[Lay](hs:qol (sub E.root p)=true){td:List It}{st:St}{f:Nat}{first caps:List D}(hd:isD (evO st.sl [] (rfG (sub E.root p)))=true)
  (hg:∀g v,R g (evO st.sl [] (rfG (sub E.root p))) v->∃vf vs:List Value,v = .func (.func f) vf.toArray vs.toArray/\Rs g first vf/\Rs g caps vs) (l:List Nat)
  (hc:CallA E.P f (first ++ .yl st.h.nl::caps) (qrj st.h (pg E p (w6 l st.sl))) fun _ h2 =>
   (h2.box st.h.nl=some (.loop (pg E p (w6 l st.sl)) none)/\bn E fin td .normal ⟨st.sl,qca h2 st.h.nl⟩) \/
   (h2.box st.h.nl=some (.loop (pg E p (w6 l st.sl)) (some .ret))/\bn E fin td .ret ⟨st.sl,qca h2 st.h.nl⟩)):At E fin (.code p::td) st:=by
 have hrf:=qom hs
 refine⟨_,hrf,fun ρ g β U a w o r=>wpIn_rangeFunc fun fn hfn=> ?_⟩
 have hgv:=(wj r (cl:=[]) (by simp)).data (x:=rfG (sub E.root p)) hd
 obtain⟨vf,vs,hv,hfs,hcs⟩:=hg _ _ hgv
 obtain⟨fnn,c1,c2,c3⟩:=hc.ok
 have henter:∃(b:Nat) (mark:List Deferred) (w₁:World) (dfr:Nat),(Instr.enterLoop fn a.tmps (rfP (sub E.root p)) (rfA (sub E.root p)) (rfB (sub E.root p)) ρ).run E.P w = .ok (b,mark) w₁/\RowKit.Below w.heap.size w w₁/\w.heap.size<=b/\b<w₁.heap.size /\
   w₁.heap[b]? = some (.loop {state:= .ready,pending:=none,fn:=fn,tmps:=a.tmps,params:=rfP (sub E.root p),assign:=rfA (sub E.root p),body:=rfB (sub E.root p),defers:=dfr})/\DefOk U (mark++a.defers) w₁:=by
  cases ρ with
  |none =>
   refine⟨_,_,_,w.heap.size,run_enterLoop_outer fn a.tmps _ _ _,below_two,by omega,by simp,?_,?_⟩
   ·have:=World.alloc_heap_new (w.alloc (.deferred (some []))) (.loop {state:= .ready,pending:=none,fn:=fn,tmps:=a.tmps,params:=rfP (sub E.root p),assign:=rfA (sub E.root p),body:=rfB (sub E.root p),defers:=w.heap.size})
    simpa using this
   ·obtain⟨bs,f1,f2,f3⟩:=r.defers
    have hlt:∀k∈bs,k<w.heap.size:=fun k hk=>jg (f3 k hk).1
    refine⟨w.heap.size::bs,by rw[f1];rfl,List.nodup_cons.2 ⟨fun hm=>absurd (hlt _ hm) (by omega),f2⟩,fun k hk=> ?_⟩
    rcases List.mem_cons.1 hk with rfl|hk
    ·refine⟨?_,fun hu=>absurd (r.inv.ub _ hu) (by omega)⟩
     rw[j7 _ _ (by simp)]
     exact jh _ _
    ·exact⟨(below_two.block k (hlt k hk)).trans (f3 k hk).1,(f3 k hk).2⟩
  |some q =>
   obtain⟨_,rr,hq⟩:=o q rfl
   refine⟨_,_,_,rr.defers,n9 fn a.tmps _ _ _ hq,zr w _,Nat.le_refl _,by simp,jh _ _,?_⟩
   exact r.defers.kept (Below.defs (zr w _))
 obtain⟨b,mark,w₁,dfr,h1,h2,h3,h4,h5,h6⟩:=henter
 have le:=kh (b:=b) (r.inv.frL st.h.nl (Nat.le_refl _))
 have r1:=r.newRow (b:=b) (row:= .loop (pg E p (w6 l st.sl)) none) h2 h3 h4 ⟨fn,a.tmps,dfr,h5,r.size,fun t d ht=>by
  obtain⟨k1,k2⟩:=ud ht
  have:=r.slot t d k1
  refine R.mono le _ _ ?_
  cases d <;> first|exact this|exact Bool.noConfusion (show false=true from k2)⟩ h6
 have k01:Kept U w w₁:=⟨h2.os,h2.tape,h2.output,h2.size,fun k hk=>h2.block k (r.inv.ub k hk),Below.defs h2⟩
 have hargs:Rs (ji g st.h.nl b) (first ++ .yl st.h.nl::caps) (vf ++ .func (.yield b) #[] #[]::vs):=by
  refine(Rs.mono le _ _ hfs).append ?_
  simp only[Rs]
  exact⟨_,_,rfl,by simp only[R];exact⟨b,by simp[ji,qb],rfl⟩,Rs.mono le _ _ hcs⟩
 have hcall:=CallA.at (st:={st with h:=qrj st.h (pg E p (w6 l st.sl))}) hc r1 hargs
 have c3':¬fnn.name = "runtime.NumGoroutine" :=by simpa using c3
 have c2':¬fnn.body=none:=by intro h;rw[h]at c2;cases c2
 refine⟨b,mark,w₁,{target:= .fn (.func f) vs.toArray,args:=vf.toArray ++ #[.func (.yield b) #[] #[]]},w₁,f,(vf ++ .func (.yield b) #[] #[]::vs).toArray,w₁,h1,?_,fun _ _=>trivial,?_,fun h=>Bool.noConfusion (show false=true from h),?_⟩
 ·have hev:(#[Operand.const (.func (.yield b) #[] #[])]:Array Operand).map a.eval = #[.func (.yield b) #[] #[]]:=by simp[Act.eval]
  simp only[resolve,hv,hev,Deferred.ofValue,Sem.run_pure]
 ·simp[invoke,callFunc,c1,c2',c3']
 ·refine CallsIn.mono (F:=fen ρ) (show CallsIn (fen ρ) (0-1) E.P f _ w₁ _ from callsIn_wide.2 hcall) fun e w₃ ⟨x,g',d,h',e1,e2,r3,gr,k3,e4⟩=> ?_
  subst e1
  have hmu:g'.μ st.h.nl=some b:=gr.le.μ _ _ (by simp[ji,qb])
  have fin:∀j,h'.box st.h.nl=some (.loop (pg E p (w6 l st.sl)) j)->∃lp w₄,w₃.heap[b]? = some (.loop lp)/\lp.state≠ .busy/\lp.pending=j/\w₄=w₃.putObj b (.loop {lp with state:= .exhausted})/\Rel E.nt g' β U noY ⟨st.sl,qca h' st.h.nl⟩ {a with defers:=mark++a.defers} w₄/\Grow U g g'/\Kept U w w₄:=fun j hj=>by
   obtain⟨b',q1,q2,q3,q4⟩:=r3.inv.box _ _ hj
   rw[hmu]at q1;cases q1
   obtain⟨fn',tm',df',q5,_,_⟩:=q2
   have t3:=y0 w₃ b (.loop {state:= .exhausted,pending:=j,fn:=fn',tmps:=tm',params:=rfP (sub E.root p),assign:=rfA (sub E.root p),body:=rfB (sub E.root p),defers:=df' })
   have r4:=(r3.off st.h.nl).noCells (ds:=mark++a.defers) t3 (w7 q5) (fun l' hl' hh=>by
    obtain⟨f1,f2⟩:=qc2 hl'
    exact f1 (r3.inv.boxInj l' _ b f2 (by rw[hj];simp) hh hmu)) (by
    obtain⟨bs,f1,f2,f3⟩:=r3.defers
    exact⟨bs,f1,f2,fun k hk=>⟨(t3.other k fun e=>by subst e;have:=(f3 k hk).1;rw[q5]at this;cases this).trans (f3 k hk).1,(f3 k hk).2⟩⟩)
   refine⟨_,_,q5,by cases j <;> simp,rfl,rfl,r4,(Grow.sameσ le rfl).trans gr,(k01.trans k3).trans (t3.keptL q3 q5)⟩
  rcases e4 with ⟨hj,hcont⟩|⟨hj,hcont⟩
  ·obtain⟨lp,_,f1,f2,f3,rfl,f5,f6,f7⟩:=fin _ hj
   refine⟨_,_,run_endLoop f1 f2,?_⟩
   rw[f3]at f5 f7⊢
   exact⟨.normal,g',β,_,rfl,f5,f6,f7,hcont⟩
  ·obtain⟨lp,_,f1,f2,f3,rfl,f5,f6,f7⟩:=fin _ hj
   refine⟨_,_,run_endLoop f1 f2,?_⟩
   rw[f3]at f5 f7⊢
   exact wpIn_ret ⟨.ret,g',β,_,rfl,f5,f6,f7,hcont⟩
theorem qkg[Lay](hs:qol (sub E.root p)=true){td:List It}{st:St}{f:Nat}{caps:List D}(hg:evO st.sl [] (rfG (sub E.root p)) = .clo f caps)(l:List Nat)
  (hc:CallA E.P f (.yl st.h.nl::caps) (qrj st.h (pg E p (w6 l st.sl))) fun _ h2 =>
   (h2.box st.h.nl=some (.loop (pg E p (w6 l st.sl)) none)/\bn E fin td .normal ⟨st.sl,qca h2 st.h.nl⟩) \/
   (h2.box st.h.nl=some (.loop (pg E p (w6 l st.sl)) (some .ret))/\bn E fin td .ret ⟨st.sl,qca h2 st.h.nl⟩)):At E fin (.code p::td) st :=
 qhh hs (first:=[]) (by rw[hg];rfl) (fun g v hr=>by
  rw[hg]at hr
  simp only[R]at hr
  obtain⟨vs,hv,hcs⟩:=hr
  exact⟨[],vs,hv,rfl,hcs⟩) l hc
end
def fbF(m N l:Nat):Nat:=bif Nat.blt l m then l else N
theorem qlr{m N l:Nat}(h:l<m):fbF m N l=l:=by
 unfold fbF
 have:Nat.blt l m=true:=by rw[Nat.blt_eq];exact h
 rw[this];rfl
theorem qhi{m N l:Nat}(h:m<=l):fbF m N l=N:=by
 unfold fbF
 have:Nat.blt l m=false:=by
  cases hb:Nat.blt l m with
  |false=>rfl
  |true=>rw[Nat.blt_eq]at hb;omega
 rw[this];rfl
def qls(fb ft:Nat->Nat):Row->Prop
 | .loop r _=>∀t d,qo r.sl t=some d->kb d/\ren fb ft d=d
 |row=>ri row/\d5 fb ft row=row
theorem RowAt.low{fb ft:Nat->Nat}{g0 g:G}(m:qc1 fb ft g0 g){w:World}{b:Nat}{row:Row}(h:RowAt g w b row)(ho:qls fb ft row):RowAt g0 w b row:=by
 cases row with
 |loop r j =>
  obtain⟨fn,tmps,dfr,e1,e2,e3⟩:=h
  refine⟨fn,tmps,dfr,e1,e2,fun t d ht=> ?_⟩
  obtain⟨o,e⟩:=ho t d ht
  have:=e3 t d ht
  rw[<-e]at this
  exact R.unren m d _ o this
 |lit cs=>have h':=h;rw[<-ho.2]at h';exact RowAt.unren m h' ho.1
 |arr n get=>have h':=h;rw[<-ho.2]at h';exact RowAt.unren m h' ho.1
 |litT T cs=>have h':=h;rw[<-ho.2]at h';exact RowAt.unren m h' ho.1
 |map kk has v=>have h':=h;rw[<-ho.2]at h';exact RowAt.unren m h' ho.1
structure qon(m k:Nat)(h:Heap):Prop where
 box:∀l row,h.box l=some row->l<m/\qls (fbF m h.nl) (fbF k h.nt) row
 hw:∀t n,h.hw t=some n->t<k
 vw:∀t,k<=t->h.vw t=none
 rv:∀t n f,h.hw t=some n->h.vw t=some f->∀i,i<n->Data (f i)
def qjf(g:G)(m k:Nat):G:=⟨g.σ,fun l=>if l<m then g.μ l else none,fun t=>if t<k then g.τ t else none⟩
theorem qbh{g:G}{m k N M:Nat}(hN:g.μ N=none)(hM:g.τ M=none):qc1 (fbF m N) (fbF k M) (qjf g m k) g:=by
 refine⟨fun _ _ h=>h,fun l b h=> ?_,fun t q h=> ?_⟩
 ·show(if l<m then g.μ l else none)=some b
  rcases Nat.lt_or_ge l m with hl|hl
  ·rw[qlr hl]at h;rw[if_pos hl];exact h
  ·rw[qhi hl,hN]at h;cases h
 ·show(if t<k then g.τ t else none)=some q
  rcases Nat.lt_or_ge t k with hl|hl
  ·rw[qlr hl]at h;rw[if_pos hl];exact h
  ·rw[qhi hl,hM]at h;cases h
theorem Inv.forget[Lay]{g:G}{U:Nat->Prop}{h:Heap}{w:World}{m k:Nat}(i:Inv g U h w)(o:qon m k h):Inv (qjf g m k) U ⟨h.box,m,h.hw,k,h.vw⟩ w:=by
 have back:qc1 (fbF m h.nl) (fbF k h.nt) (qjf g m k) g:=qbh (i.frL _ (Nat.le_refl _)) (i.frT _ (Nat.le_refl _))
 have μ0:∀{l b},(qjf g m k).μ l=some b->l<m/\g.μ l=some b:=fun{l b} e=>by
  have e':(if l<m then g.μ l else none)=some b:=e
  split at e'
  ·rename_i hl;exact⟨hl,e'⟩
  ·cases e'
 have τ0:∀{t q},(qjf g m k).τ t=some q->t<k/\g.τ t=some q:=fun{t q} e=>by
  have e':(if t<k then g.τ t else none)=some q:=e
  split at e'
  ·rename_i hl;exact⟨hl,e'⟩
  ·cases e'
 refine⟨i.sub,i.ub,fun l b e=>i.muLt l b (μ0 e).2,fun l row e=> ?_,fun l l' b e e' f1 f2=>i.boxInj l l' b e e' (μ0 f1).2 (μ0 f2).2,fun t n e=> ?_,
  fun t n q b l e f1 f2 f3 f4 f5=>i.tokBox t n q b l e (τ0 f1).2 f2 f3 f4 (μ0 f5).2,fun t t' n n' q q' b e e' f1 f2 p1 p2 p3 p4=>i.tokInj t t' n n' q q' b e e' (τ0 f1).2 (τ0 f2).2 p1 p2 p3 p4,
  fun l hl=> ?_,fun t ht=> ?_,fun t ht=>o.vw t ht,i.ltab⟩
 ·obtain⟨hl,hr⟩:=o.box l row e
  obtain⟨b,f1,f2,f3,f4⟩:=i.box l row e
  exact⟨b,by show(if l<m then g.μ l else none)=some b;rw[if_pos hl];exact f1,f2.low back hr,f3,f4⟩
 ·have hl:=o.hw t n e
  obtain⟨q,f1,f2,f3⟩:=i.tok t n e
  refine⟨q,by show(if t<k then g.τ t else none)=some q;rw[if_pos hl];exact f1,f2,fun ha=> ?_⟩
  obtain⟨b,c1,c2,T,vals,c3,c4,c5,c6⟩:=f3 ha
  refine⟨b,c1,c2,T,vals,c3,c4,c5,fun get hg=>⟨(c6 get hg).1,fun j hj=> ?_⟩⟩
  obtain⟨u,h1,h2⟩:=(c6 get hg).2 j hj
  exact⟨u,R.data (g:=g) (g':=qjf g m k) (fun _ _ h=>h) _ _ (o.rv t n get e hg j (by omega)) h1,h2⟩
 ·show(if l<m then g.μ l else none)=none
  rw[if_neg (by have hl':m<=l:=hl;omega)]
 ·show(if t<k then g.τ t else none)=none
  rw[if_neg (by have ht':k<=t:=ht;omega)]
theorem qbi[Lay]{g0 g:G}{U:Nat->Prop}{h:Heap}{w:World}(i:Inv g0 U h w)(gr:Grow U g0 g):Grow U g0 (qjf g h.nl h.nt):=by
 refine⟨⟨gr.le.σ,fun l b e=> ?_,fun t q e=> ?_⟩,gr.new⟩
 ·show(if l<h.nl then g.μ l else none)=some b
  rcases Nat.lt_or_ge l h.nl with hl|hl
  ·rw[if_pos hl];exact gr.le.μ l b e
  ·rw[i.frL l hl]at e;cases e
 ·obtain⟨q',f1,f2⟩:=gr.le.τ t q e
  rcases Nat.lt_or_ge t h.nt with hl|hl
  ·exact⟨q',by show(if t<h.nt then g.τ t else none)=some q';rw[if_pos hl];exact f1,f2⟩
  ·rw[i.frT t hl]at e;cases e
theorem CallY.forget[Lay]{P:Program}{l:Nat}{args:List D}{h h1:Heap}{K:D->Heap->Prop}{d:D}(hd:Data d)(o:qon h.nl h.nt h1)(hk:K d ⟨h1.box,h.nl,h1.hw,h.nt,h1.vw⟩)
  (c:CallY P l args h fun d' h'=>d'=d/\HeapLe h' h1):CallY P l args h K:=by
 refine⟨fun g U w vs b i hs hm=> ?_⟩
 obtain⟨r,e1,e2,e3⟩:=c.calls g U w vs b i hs hm
 refine⟨r,e1,e2,fun ρ=>RoundIn.mono (e3 ρ) fun e w' ⟨x,g',d',h',f1,f2,f3,f4,f5,f6,f7⟩=> ?_⟩
 subst f6
 exact⟨x,qjf g' h.nl h.nt,d',_,f1,R.data (g:=g') (g':=qjf g' h.nl h.nt) (fun _ _ h=>h) _ _ hd f2,(f3.le f7).forget o,qbi i f4,f5,hk⟩
theorem Does.forget[Lay]{P:Program}{f:Nat}{args:List D}{h h1:Heap}{v:D}(c:Does P f args h v h1)(o:qon h.nl h.nt h1)(h0:kb v)(hv:ren (fbF h.nl h1.nl) (fbF h.nt h1.nt) v=v) :
  Does P f args h v ⟨h1.box,h.nl,h1.hw,h.nt,h1.vw⟩:=by
 have c0:=c (fun d h'=>d=v/\h'=h1) ⟨rfl,rfl⟩
 refine Does.of_calls c0.ok fun g U w vs i hs=> ?_
 refine(c0.calls g U w vs i hs).mono fun e w' ⟨x,g',d',h',f1,f2,f3,f4,f5,f6,f7⟩=> ?_
 subst f6;subst f7
 refine⟨x,qjf g' h.nl h.nt,f1,?_,f3.forget o,qbi i f4,f5⟩
 rw[<-hv]at f2
 exact R.unren (qbh (f3.frL _ (Nat.le_refl _)) (f3.frT _ (Nat.le_refl _))) _ _ h0 f2
end Go.Ab
