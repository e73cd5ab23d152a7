/-
  Part 3 of a proof library: the code of functions is evaluated over data, proved sound against the model.
-/
import Derived.Test.YtedhbknblmfgeaaVCutoffMeansb
set_option linter.all false
namespace Go.V
open Go
theorem eqG_eq:∀ {a b:Option (Nat×Bool)},eqG a b = true→a = b
 | none,none,_ => rfl
 | some (i,a),some (j,b),h => by
  simp only [eqG,Bool.and_eq_true] at h
  rw [Nat.eq_of_beq_eq_true h.1]
  cases a <;> cases b <;> simp_all
 | none,some _,h => by cases h
 | some _,none,h => by cases h
theorem upTo_split (g:Option (Nat×Bool)):∀ (l:List Oper),(upTo g l).1 ++ (upTo g l).2 = l
 | [] => rfl
 | o :: l => by
  unfold upTo
  cases eqG o.guard g with
  | true => rfl
  | false => simp [upTo_split g l]
theorem upTo_head (g:Option (Nat×Bool)):∀ {l:List Oper} {p:Oper} {r:List Oper},(upTo g l).2 = p :: r→p.guard = g
 | [],p,r,h => by cases h
 | o :: l,p,r,h => by
  unfold upTo at h
  cases ho:eqG o.guard g with
  | true => rw [ho] at h; simp at h; rw [← h.1]; exact eqG_eq ho
  | false => rw [ho] at h; exact upTo_head g h
variable [Kp] in
theorem testBit_dstsM {l:List Oper} {u:Nat}:Nat.testBit (dstsM l) u = true ↔ ∃ o∈l,o.dst = some u:=by
 induction l with
 | nil => simp [dstsM]
 | cons o l ih =>
  rw [dstsM,testBit_lor,Bool.or_eq_true,ih,testBit_dstM]
  constructor
  ·rintro (h | ⟨o',h1,h2⟩)
   ·exact ⟨o,by simp,h⟩
   ·exact ⟨o',by simp [h1],h2⟩
  ·rintro ⟨o',h1,h2⟩
   rcases List.mem_cons.1 h1 with rfl | h1
   ·exact .inl h2
   ·exact .inr ⟨o',h1,h2⟩
section
variable [Kp] {Q:FuncId→List SV→Res→Prop} {C:Ctx} {ops:List Oper} {Φ:Oracle} {oth:List Nat}
structure Pure1 (oth:List Nat) (p:Nat×Data):Prop where
 steps:p.2.x.2 = []
 asks:∀ r∈p.2.A,Nat.testBit (getN oth p.1) r.1 = false
 roots:∀ r∈p.2.A,∀ u,Leads r.2 u→Nat.testBit (getN oth p.1) u = false
 val:∀ u,Leads p.2.x.1 u→Nat.testBit (getN oth p.1) u = false
 ptr:p.2.p = none
theorem touch_asks {g:Nat→SV}:∀ {l:List (Nat×Option Nat)} {b:Unit} {A:List (Nat×SV)},(touchAll l).Asks Q g b A→∀ u∈fsts l,∃ v,(u,v)∈A
 | [],_,_,_,u,hu => by cases hu
 | x :: l,b,A,h,u,hu => by
  obtain ⟨B,rfl,h⟩:=h
  rcases List.mem_cons.1 hu with rfl | hu
  ·exact ⟨_,List.mem_cons_self⟩
  ·obtain ⟨v,hv⟩:=touch_asks h u hu
   exact ⟨v,List.mem_cons_of_mem _ hv⟩
theorem opD_touch {o:Oper} {d:Nat} (hd:o.dst = some d) {g:Nat→SV} {x:SV×List Step} {A:List (Nat×SV)} (h:(opD C o).Asks Q g x A):∀ u,Leads x.1 u→∃ v,(u,v)∈A:=by
 obtain ⟨y,A₁,A₂,_,h2,rfl⟩:=asks_bind h
 rw [hd] at h2
 obtain ⟨_,h2⟩:=h2
 obtain ⟨c,A₃,A₄,h3,h4,rfl⟩:=asks_bind h2
 have h4:y = x∧A₄ = []:=h4
 obtain ⟨rfl,rfl⟩:=h4
 intro u hu
 have:∃ v,(u,v)∈A₃:=by
  unfold Leads rootsM at hu
  unfold touch at h3
  cases hy:y.1 with
  | agg cs => rw [hy] at hu h3; exact touch_asks h3 u (testBit_masks.1 hu)
  | _ => rw [hy] at hu h3; exact touch_asks h3 u (testBit_masks.1 hu)
 obtain ⟨v,hv⟩:=this
 exact ⟨v,by simp [hv]⟩
theorem after_nil {S:VS} {D:Data} {d:Nat} (hd:D.o.dst = some d) (hx:D.x.2 = []):S.after D = ⟨fset S.σ d D.x.1,fset S.z d D.sk⟩:=by
 unfold VS.after putSteps
 rw [hd,hx]
 congr 1
 funext k
 simp only [List.nil_append,stepsF,stepF,fset]
 by_cases hk:k = d
 ·subst hk; simp
 ·simp [hk,beq_false hk]
theorem selP_spec {s:St} {m:Nat} {y:Operand} {v:Bool} (h:selP s m y = some v):(y = .const (.bool v))∨∃ t,y = .tmp t∧get s t = .bool v∧Nat.testBit m t = false:=by
 unfold selP at h
 split at h
 ·rename_i t
  split at h
  ·rename_i b hb
   cases hd:disj m (bit t) with
   | false => rw [hd] at h; cases h
   | true =>
    rw [hd] at h
    cases h
    refine .inr ⟨t,rfl,hb,?_⟩
    exact disj_at (disj_symm hd) (by rw [testBit_bit]; simp)
  ·cases h
 ·cases h; exact .inl rfl
 ·cases h
theorem skip_chain (j:Nat) (w:Bool) (t:Nat) (ht:slotAt ops j = some t):∀ (sub:List Oper) (i acc:Nat) (S:VS),skipOk ops j w acc sub = true→dstLt C sub = true→S.σ t = .bool (!w)→(∀ o∈sub,o.dst ≠ some t) →
  (∀ u,Nat.testBit acc u = true→S.z u = true∧S.σ u = .junk)→(∀ o∈sub,∀ d,o.dst = some d→isCont (S.σ d) = false)→(∀ k o,sub[k]? = some o→ops[i + k]? = some o) →
  (∀ k o,sub[k]? = some o→∀ u,Nat.testBit (guardM ops o) u = true→Nat.testBit (getN oth (i + k)) u = false) →
  ∃ S' rem,Chain Q C ops S rem S'∧fsts rem = List.range' i sub.length∧(∀ p∈rem,Pure1 oth p)∧(∀ k,(∀ o∈sub,o.dst ≠ some k)→S'.σ k = S.σ k)∧∀ k,(∃ o∈sub,o.dst = some k)→S'.σ k = .junk:=by
 intro sub
 induction sub with
 | nil =>
  intro i acc S _ _ _ _ _ _ _ _
  exact ⟨S,[],.nil _,by simp [fsts],by simp,fun _ _ => rfl,by rintro k ⟨o,h,_⟩; cases h⟩
 | cons o sub ih =>
  intro i acc S hsk hlt hσ hne hacc hnc hops hoth
  unfold skipOk at hsk
  rw [Bool.and_eq_true] at hsk
  obtain ⟨hg,hsk⟩:=hsk
  unfold dstLt at hlt
  rw [Bool.and_eq_true] at hlt
  obtain ⟨hd,hlt⟩:=hlt
  cases hdst:o.dst with
  | none => rw [hdst] at hd; cases hd
  | some d =>
   rw [hdst] at hd
   have hdn:okD C d = true:=hd
   have hdt:d ≠ t:=fun e => hne o (by simp) (by rw [hdst,e])
   have hG:∃ u,GuardIs ops S o false [(u,S.σ u)]∧Nat.testBit (getN oth i) u = false∧∀ x,¬ Leads (S.σ u) x:=by
    have h0:=hoth 0 o (by simp)
    simp only [Nat.add_zero] at h0
    cases hgd:o.guard with
    | none => rw [hgd] at hg; cases hg
    | some q =>
     obtain ⟨j',w'⟩:=q
     rw [hgd] at hg
     simp only [Bool.or_eq_true,Bool.and_eq_true] at hg
     rcases hg with ⟨h1,h2⟩ | h1
     ·have hj:j' = j:=Nat.eq_of_beq_eq_true h1
      subst hj
      have hw:w' = w:=by cases w <;> cases w' <;> simp_all
      subst hw
      refine ⟨t,.no j' w' t hgd ht (.inl hσ),h0 t (by unfold guardM; rw [hgd]; simp only [ht,testBit_bit,decide_eq_true_eq]),by rw [hσ]; intro x hx; simp [Leads,rootsM,refOf,fsts,masks] at hx⟩
     ·cases ht':slotAt ops j' with
      | none => rw [ht'] at h1; cases h1
      | some t' =>
       rw [ht'] at h1
       have hz:=hacc t' h1
       refine ⟨t',.no j' w' t' hgd ht' (.inr hz.1),h0 t' ?_,by rw [hz.2]; intro x hx; simp [Leads,rootsM,refOf,fsts,masks] at hx⟩
       unfold guardM
       rw [hgd]
       simp only [ht',testBit_bit,decide_eq_true_eq]
   obtain ⟨u,hG,hu,hul⟩:=hG
   let D:Data:=⟨o,(.junk,[]),[(u,S.σ u)],true,none⟩
   have hDoes:Does Q C ops S D:=.skip d hG rfl rfl hdst hdn rfl
   have haf:S.after D = ⟨fset S.σ d .junk,fset S.z d true⟩:=after_nil hdst rfl
   obtain ⟨S',rem,h1,h2,h3,h4,h5⟩:=ih (i + 1) _ (S.after D) hsk hlt (by rw [haf]; simp only [fset_ne _ _ (Ne.symm hdt)]; exact hσ) (fun o' ho' => hne o' (by simp [ho'])) (fun v hv => by
     rw [testBit_lor,Bool.or_eq_true] at hv
     rw [haf]
     by_cases e:v = d
     ·subst e; simp
     ·rcases hv with hv | hv
      ·simp only [fset_ne _ _ e]; exact hacc v hv
      ·rw [testBit_dstM,hdst] at hv; cases hv; exact (e rfl).elim) (fun o' ho' d' hd' => by
     rw [haf]
     by_cases e:d' = d
     ·subst e; simp [isCont]
     ·simp only [fset_ne _ _ e]; exact hnc o' (by simp [ho']) d' hd') (fun k o' hk => by
     have:=hops (k + 1) o' (by simpa using hk)
     rwa [show i + (k + 1) = i + 1 + k by omega] at this) (fun k o' hk => by
     have:=hoth (k + 1) o' (by simpa using hk)
     rwa [show i + (k + 1) = i + 1 + k by omega] at this)
   refine ⟨S',(i,D) :: rem,.cons _ _ _ _ _ (by simpa using hops 0 o (by simp)) hDoes (fun d' hd' => hnc o (by simp) d' hd') h1,?_,?_,?_,?_⟩
   ·simp only [fsts,h2,List.length_cons,List.range'_succ]
   ·intro p hp
    rcases List.mem_cons.1 hp with rfl | hp
    ·refine ⟨rfl,?_,?_,?_,rfl⟩
     ·intro r hr; simp only [D,List.mem_singleton] at hr; subst hr; exact hu
     ·intro r hr x hx; simp only [D,List.mem_singleton] at hr; subst hr; exact (hul x hx).elim
     ·intro x hx; simp [D,Leads,rootsM,refOf,fsts,masks] at hx
    ·exact h3 p hp
   ·intro k hk
    rw [h4 k fun o' ho' => hk o' (by simp [ho']),haf]
    exact fset_ne _ _ fun e => hk o (by simp) (by rw [hdst,e])
   ·rintro k ⟨o',ho',hd'⟩
    by_cases hin:∃ o∈sub,o.dst = some k
    ·exact h5 k hin
    ·have:o' = o:=by
      rcases List.mem_cons.1 ho' with h | h
      ·exact h
      ·exact (hin ⟨o',h,hd'⟩).elim
     subst this
     rw [hdst] at hd'
     cases hd'
     rw [h4 d fun o' ho' e => hin ⟨o',ho',e⟩,haf]
     simp
def GCtx (ops:List Oper) (g:Option (Nat×Bool)) (S:VS):Prop:=∀ j w,g = some (j,w)→∃ t,slotAt ops j = some t∧S.σ t = .bool w
theorem gslot_at {g:Option (Nat×Bool)} {j:Nat} {w:Bool} {t:Nat} (hg:g = some (j,w)) (ht:slotAt ops j = some t):Nat.testBit (gslot ops g) t = true:=by
 subst hg
 unfold gslot
 simp only [ht,testBit_bit,decide_eq_true_eq]
theorem GCtx.is {g:Option (Nat×Bool)} {S:VS} (h:GCtx ops g S) {o:Oper} (ho:o.guard = g):∃ G,GuardIs ops S o true G∧∀ r∈G,Nat.testBit (guardM ops o) r.1 = true∧∃ w,r.2 = .bool w:=by
 cases hg:g with
 | none => exact ⟨[],.free (by rw [ho,hg]),by simp⟩
 | some q =>
  obtain ⟨j,w⟩:=q
  obtain ⟨t,ht,hσ⟩:=h j w hg
  refine ⟨[(t,S.σ t)],.yes j w t (by rw [ho,hg]) ht hσ,?_⟩
  intro r hr
  simp only [List.mem_singleton] at hr
  subst hr
  refine ⟨?_,w,hσ⟩
  unfold guardM
  rw [ho,hg]
  simp only [ht,testBit_bit,decide_eq_true_eq]
theorem noLeads_bool {w:Bool} {u:Nat}:¬ Leads (.bool w) u:=by intro h; simp [Leads,rootsM,refOf,fsts,masks] at h
theorem Chain.append {S S' S'':VS} {l m:List (Nat×Data)} (h:Chain Q C ops S l S') (h':Chain Q C ops S' m S''):Chain Q C ops S (l ++ m) S'':=by
 induction h with
 | nil S => exact h'
 | cons S i D l S' hi hD hd hc ih => exact .cons _ _ _ _ _ hi hD hd (ih h')
theorem fsts_append {α:Type}:∀ (a b:List (Nat×α)),fsts (a ++ b) = fsts a ++ fsts b
 | [],_ => rfl
 | x :: a,b => by simp [fsts,fsts_append a b]
def Once (ops:List Oper):Prop:=∀ (i j:Nat) (o o':Oper) (d:Nat),ops[i]? = some o→ops[j]? = some o'→o.dst = some d→o'.dst = some d→i = j
def Gone (ops:List Oper) (i:Nat) (σ' σ:Nat→SV):Prop:=∀ k,σ' k = σ k∨(σ' k = .junk∧(∀ j,¬ Leads (σ' j) k)∧∃ m o,m < i∧ops[m]? = some o∧o.dst = some k)
theorem Gone.refl (i:Nat) (σ:Nat→SV):Gone ops i σ σ:=fun _ => .inl rfl
theorem Gone.weak {i:Nat} {σ' σ:Nat→SV} (h:Gone ops i σ' σ):Weak σ' σ:=fun k => (h k).imp id fun h => ⟨h.1,.inr h.2.1⟩
theorem Gone.fresh {i:Nat} {σ' σ:Nat→SV} (h:Gone ops i σ' σ) (hon:Once ops) {m d:Nat} {o:Oper} (ho:ops[m]? = some o) (hm:i≤m) (hd:o.dst = some d):σ' d = σ d:=by
 rcases h d with e | ⟨_,_,m',o',h1,h2,h3⟩
 ·exact e
 ·have:=hon m m' o o' d ho h2 hd h3
  omega
omit [Kp] in
theorem stM_at {s:St} {j k:Nat} (h:Leads (get s j) k):Nat.testBit (stM s) k = true:=by
 induction s with
 | nil => simp [get,Leads,rootsM,refOf,fsts,masks] at h
 | cons x s ih =>
  obtain ⟨i,v⟩:=x
  unfold stM
  rw [testBit_lor,Bool.or_eq_true]
  unfold get at h
  cases hb:Nat.beq i j with
  | true => rw [hb] at h; exact .inl h
  | false => rw [hb] at h; exact .inr (ih h)
def GuardsOk (ops:List Oper) (oth:List Nat):Prop:=∀ i o,ops[i]? = some o→∀ u,Nat.testBit (guardM ops o) u = true→Nat.testBit (getN oth i) u = false
theorem prun_sound (hΦ:OracleOk Φ Q) (hgo:GuardsOk ops oth) (hon:Once ops):∀ (n:Nat) (g:Option (Nat×Bool)) (l:List Oper) (i:Nat) (s:St) {β:Type} (κ:St→Option β) (r:β) (S:VS),
  prun C Φ ops oth n g i l s β κ = some r→(∀ k o,l[k]? = some o→ops[i + k]? = some o)→Gone ops i (get s) S.σ→GCtx ops g S →
  ∃ s' S' rem,κ s' = some r∧Gone ops (i + l.length) (get s') S'.σ∧Chain Q C ops S rem S'∧fsts rem = List.range' i l.length∧(∀ p∈rem,Pure1 oth p)∧(∀ k,(∀ o∈l,o.dst ≠ some k)→S'.σ k = S.σ k)∧GCtx ops g S':=by
 intro n
 induction n with
 | zero =>
  intro g l i s β κ r S h hops hW hG
  cases l with
  | nil => exact ⟨s,S,[],h,hW,.nil _,by simp [fsts],by simp,fun _ _ => rfl,hG⟩
  | cons o l => cases h
 | succ n ih =>
  intro g l i s β κ r S h hops hW hG
  cases l with
  | nil => exact ⟨s,S,[],h,hW,.nil _,by simp [fsts],by simp,fun _ _ => rfl,hG⟩
  | cons o rest =>
   have nonj:∀ {k:Nat} {v:SV},get s k = v→v ≠ .junk→S.σ k = v:=by
    intro k v hv hne
    rcases hW k with e | ⟨e,_⟩
    ·rw [← e,hv]
    ·rw [hv] at e; exact (hne e).elim
   have ncont:∀ {m d:Nat} {o:Oper},ops[m]? = some o→i≤m→o.dst = some d→isCont (get s d) = false→isCont (S.σ d) = false:=by
    intro m d o ho hm hd hk
    rw [← hW.fresh hon ho hm hd]; exact hk
   unfold prun at h
   cases hg:eqG o.guard g with
   | true =>
    rw [hg,cond_true] at h
    have hog:=eqG_eq hg
    obtain ⟨x,A,hA,h⟩:=RD.asks_of_runA hΦ _ _ _ [] h
    simp only [List.append_nil] at h
    split at h
    ·rename_i d hx hd
     generalize hB:A.reverse = B at h
     have memB:∀ r,r∈B ↔ r∈A:=by intro r; rw [← hB]; simp
     generalize hck:((!isCont (get s d) && (B.all fun q => nj q.2)) && ((disj (askM B) (getN oth i) && disj (askR B) (getN oth i)) && disj (gslot ops g) (bit d))) = b at h
     cases b with
     | false => cases h
     | true =>
      rw [cond_true] at h
      simp only [Bool.and_eq_true,Bool.not_eq_true'] at hck
      obtain ⟨⟨c1,c2⟩,⟨c3,c4⟩,c5⟩:=hck
      obtain ⟨G,hGi,hGm⟩:=hG.is hog
      have hAt:=hA.at
      have hnj:∀ q∈A,q.2 ≠ .junk:=by
       intro q hq e
       have:=List.all_eq_true.1 c2 q ((memB q).2 hq)
       rw [e] at this; cases this
      have hA':(opD C o).Asks Q S.σ x A:=hA.local fun q hq => nonj (hAt q hq) (hnj q hq)
      let D:Data:=⟨o,x,G ++ A,false,none⟩
      have hDoes:Does Q C ops S D:=.exec G A hGi hA' rfl rfl rfl
      have haf:S.after D = ⟨fset S.σ d x.1,fset S.z d false⟩:=after_nil hd hx
      have hi:ops[i]? = some o:=by simpa using hops 0 o (by simp)
      have hdst:DstOk S D:=by
       intro d' hd'
       have hd':o.dst = some d':=hd'
       rw [hd] at hd'
       cases hd'
       exact ncont hi (Nat.le_refl _) hd c1
      have hpure:Pure1 oth (i,D):=by
       refine ⟨hx,fun r hr => ?_,fun r hr u hu => ?_,fun u hu => ?_,rfl⟩
       ·rcases List.mem_append.1 hr with hr | hr
        ·exact hgo i o hi r.1 (hGm r hr).1
        ·exact disj_at c3 (testBit_askM.2 ⟨r.2,(memB r).2 hr⟩)
       ·rcases List.mem_append.1 hr with hr | hr
        ·obtain ⟨w,hw⟩:=(hGm r hr).2
         rw [hw] at hu; exact (noLeads_bool hu).elim
        ·exact disj_at c4 (testBit_askR ((memB r).2 hr) hu)
       ·obtain ⟨v,hv⟩:=opD_touch hd hA u hu
        exact disj_at c3 (testBit_askM.2 ⟨v,(memB _).2 hv⟩)
      obtain ⟨s',S',rem,h1,h2,h3,h4,h5,h6,h7⟩:=ih g rest (i + 1) (put s d x.1) κ r (S.after D) h (fun k o' hk => by
        have:=hops (k + 1) o' (by simpa using hk)
        rwa [show i + (k + 1) = i + 1 + k by omega] at this) (by
        rw [haf]
        intro k
        rw [get_put]
        simp only [fset]
        by_cases hk:k = d
        ·simp [hk]
        ·simp only [hk,if_false]
         rcases hW k with e | ⟨e,e2,m,om,hm,hm2,hm3⟩
         ·exact .inl e
         ·refine .inr ⟨e,fun j hl => ?_,m,om,by omega,hm2,hm3⟩
          rw [get_put] at hl
          by_cases hj:j = d
          ·simp only [hj,if_true] at hl
           obtain ⟨v,hv⟩:=opD_touch hd hA k hl
           have:=hAt _ hv
           simp only at this
           rw [e] at this
           exact hnj _ hv this.symm
          ·simp only [hj,if_false] at hl
           exact e2 j hl) (by
        intro j w hjw
        obtain ⟨t,ht,hσ⟩:=hG j w hjw
        refine ⟨t,ht,?_⟩
        rw [haf]
        have:t ≠ d:=by
         intro e
         have:=disj_at c5 (gslot_at hjw ht)
         rw [testBit_bit,e] at this; simp at this
        simp only [fset_ne _ _ this]
        exact hσ)
      refine ⟨s',S',(i,D) :: rem,h1,by rw [show i + (o :: rest).length = i + 1 + rest.length by simp only [List.length_cons]; omega]; exact h2,.cons _ _ _ _ _ hi hDoes hdst h3,?_,?_,?_,h7⟩
      ·simp only [fsts,h4,List.length_cons,List.range'_succ]
      ·intro p hp
       rcases List.mem_cons.1 hp with rfl | hp
       ·exact hpure
       ·exact h5 p hp
      ·intro k hk
       rw [h6 k fun o' ho' => hk o' (by simp [ho']),haf]
       exact fset_ne _ _ fun e => hk o (by simp) (by rw [hd,e])
    ·cases h
   | false =>
    rw [hg,cond_false] at h
    cases hgd:o.guard with
    | none => rw [hgd] at h; cases h
    | some q =>
     obtain ⟨j,w⟩:=q
     rw [hgd] at h
     simp only at h
     have hsp:=upTo_split g (o :: rest)
     generalize hU:upTo g (o :: rest) = U at h hsp
     obtain ⟨sub,tl⟩:=U
     cases tl with
     | nil => cases h
     | cons p rest' =>
      have hpg:p.guard = g:=upTo_head g (l:=o :: rest) (r:=rest') (by rw [hU])
      simp only at h hsp
      split at h
      ·rename_i c a b d t hop hd ht
       split at h
       ·rename_i bt hbt
        generalize hck:(((Nat.beq c t && okD C d) && ((!isCont (get s d) && noCont s sub) && (((skipOk ops j w 0 sub && dstLt C sub) && disj (bit t) (dstsM sub)) && (disj (gslot ops g) (Nat.lor (bit d) (dstsM sub)) && disj (getN oth (i + sub.length)) (bit t))))) && disj (stM (delL s sub)) (dstsM sub)) = bb at h
        cases bb with
        | false => cases h
        | true =>
         rw [cond_true] at h
         simp only [Bool.and_eq_true,Bool.not_eq_true'] at hck
         obtain ⟨⟨⟨c1,c2⟩,⟨c3,c4⟩,⟨⟨c5,c6⟩,c7⟩,c8,c9⟩,c10⟩:=hck
         have hct:c = t:=Nat.eq_of_beq_eq_true c1
         subst hct
         have hσt:S.σ c = .bool bt:=nonj hbt (by simp)
         obtain ⟨rb,hrb,h⟩:=Option.bind_eq_some_iff.1 h
         have hsubops:∀ k o,sub[k]? = some o→ops[i + k]? = some o:=by
          intro k o' hk
          refine hops k o' ?_
          rw [← hsp,List.getElem?_append_left (List.getElem?_eq_some_iff.1 hk).1]
          exact hk
         have hpops:ops[i + sub.length]? = some p:=by
          refine hops sub.length p ?_
          rw [← hsp]; simp
         have hts:∀ o∈sub,o.dst ≠ some c:=by
          intro o' ho' e
          have:=disj_at c7 (i:=c) (by rw [testBit_bit]; simp)
          rw [testBit_dstsM.2 ⟨o',ho',e⟩] at this; cases this
         have hgs:∀ t,Nat.testBit (gslot ops g) t = true→t ≠ d∧∀ o∈sub,o.dst ≠ some t:=by
          intro t ht
          have:=disj_at c8 ht
          rw [testBit_lor,Bool.or_eq_false_iff] at this
          refine ⟨fun e => ?_,fun o' ho' e => ?_⟩
          ·rw [testBit_bit,e] at this; simp at this
          ·rw [testBit_dstsM.2 ⟨o',ho',e⟩] at this; cases this.2
         have group:∃ S1 rem1 Y,Chain Q C ops S rem1 S1∧fsts rem1 = List.range' i sub.length∧(∀ p∈rem1,Pure1 oth p)∧(∀ k,(∀ o∈sub,o.dst ≠ some k)→S1.σ k = S.σ k) ∧
           Picks S1 (if bt then a else b) rb Y∧(∀ q∈Y,Nat.testBit (getN oth (i + sub.length)) q.1 = false):=by
          have hy:∀ (s1:St) (S1:VS) (m:Nat) (y:Operand),Gone ops (i + sub.length) (get s1) S1.σ→selP s1 m y = some rb→(∀ u,Nat.testBit m u = false→Nat.testBit (getN oth (i + sub.length)) u = false)→∃ Y,Picks S1 y rb Y∧∀ q∈Y,Nat.testBit (getN oth (i + sub.length)) q.1 = false:=by
           intro s1 S1 m y hW1 hs hm
           rcases selP_spec hs with rfl | ⟨t',rfl,h1,h2⟩
           ·exact ⟨[],.const rb,by simp⟩
           ·refine ⟨[(t',.bool rb)],.tmp t' rb ?_,by simpa using hm t' h2⟩
            rcases hW1 t' with e | ⟨e,_⟩
            ·rw [← e,h1]
            ·rw [h1] at e; cases e
          have run:∀ (y:Operand),bt = w→(prun C Φ ops oth n (some (j,w)) i sub s Bool fun s => selP s (getN oth (i + sub.length)) y) = some rb→∃ S1 rem1 Y,Chain Q C ops S rem1 S1∧fsts rem1 = List.range' i sub.length∧(∀ p∈rem1,Pure1 oth p)∧(∀ k,(∀ o∈sub,o.dst ≠ some k)→S1.σ k = S.σ k) ∧
            Picks S1 y rb Y∧(∀ q∈Y,Nat.testBit (getN oth (i + sub.length)) q.1 = false):=by
           intro y hbw hr
           obtain ⟨s1,S1,rem1,h1,h2,h3,h4,h5,h6,_⟩:=ih (some (j,w)) sub i s _ rb S hr hsubops hW (by
            intro j' w' e
            cases e
            exact ⟨c,ht,by rw [hσt,hbw]⟩)
           obtain ⟨Y,hY1,hY2⟩:=hy s1 S1 _ y h2 h1 (fun u hu => hu)
           exact ⟨S1,rem1,Y,h3,h4,h5,h6,hY1,hY2⟩
          have skip:∀ (y:Operand),bt = (!w)→selP s (Nat.lor (getN oth (i + sub.length)) (dstsM sub)) y = some rb→∃ S1 rem1 Y,Chain Q C ops S rem1 S1∧fsts rem1 = List.range' i sub.length∧(∀ p∈rem1,Pure1 oth p)∧(∀ k,(∀ o∈sub,o.dst ≠ some k)→S1.σ k = S.σ k) ∧
            Picks S1 y rb Y∧(∀ q∈Y,Nat.testBit (getN oth (i + sub.length)) q.1 = false):=by
           intro y hbw hr
           have hnc:∀ o∈sub,∀ d,o.dst = some d→isCont (S.σ d) = false:=by
            intro o' ho' d' hd'
            obtain ⟨k',hk'⟩:=List.getElem?_of_mem ho'
            refine ncont (hsubops k' o' hk') (by omega) hd' ?_
            clear hk'
            clear hr hU hsp
            induction sub with
            | nil => cases ho'
            | cons x l ihh =>
             simp only [noCont,Bool.and_eq_true] at c4
             rcases List.mem_cons.1 ho' with rfl | ho'
             ·have:=c4.1; unfold dstNC at this; rw [hd'] at this; simpa using this
             ·clear ihh
              have go:∀ l:List Oper,noCont s l = true→o'∈l→isCont (get s d') = false:=by
               intro l
               induction l with
               | nil => intro _ h; cases h
               | cons x l ih3 =>
                intro hh hm
                simp only [noCont,Bool.and_eq_true] at hh
                rcases List.mem_cons.1 hm with rfl | hm
                ·have:=hh.1; unfold dstNC at this; rw [hd'] at this; simpa using this
                ·exact ih3 hh.2 hm
              exact go l c4.2 ho'
           have hgu:∀ k o,sub[k]? = some o→∀ u,Nat.testBit (guardM ops o) u = true→Nat.testBit (getN oth (i + k)) u = false:=fun k o' hk => hgo _ _ (hsubops k o' hk)
           obtain ⟨S1,rem1,h1,h2,h3,h4,h5⟩:=skip_chain (Q:=Q) (C:=C) (oth:=oth) j w c ht sub i 0 S c5 c6 (by rw [hσt,hbw]) hts (by intro u hu; simp at hu) hnc hsubops hgu
           have hY:∃ Y,Picks S1 y rb Y∧∀ q∈Y,Nat.testBit (getN oth (i + sub.length)) q.1 = false:=by
            rcases selP_spec hr with rfl | ⟨t',rfl,h6,h7⟩
            ·exact ⟨[],.const rb,by simp⟩
            ·rw [testBit_lor,Bool.or_eq_false_iff] at h7
             refine ⟨[(t',.bool rb)],.tmp t' rb ?_,by simpa using h7.1⟩
             rw [h4 t' fun o' ho' e => by have:=h7.2; rw [testBit_dstsM.2 ⟨o',ho',e⟩] at this; cases this]
             exact nonj h6 (by simp)
           obtain ⟨Y,hY1,hY2⟩:=hY
           exact ⟨S1,rem1,Y,h1,h2,h3,h4,hY1,hY2⟩
          cases bt with
          | true =>
           cases w with
           | true => exact run a rfl hrb
           | false => exact skip a rfl hrb
          | false =>
           cases w with
           | true => exact skip b rfl hrb
           | false => exact run b rfl hrb
         obtain ⟨S1,rem1,Y,g1,g2,g3,g4,g6,g7⟩:=group
         have hG1:GCtx ops g S1:=by
          intro j' w' e
          obtain ⟨t',h1,h2⟩:=hG j' w' e
          exact ⟨t',h1,by rw [g4 t' (hgs t' (gslot_at e h1)).2]; exact h2⟩
         obtain ⟨G,hGi,hGm⟩:=hG1.is hpg
         let D:Data:=⟨p,(.bool rb,[]),G ++ (c,.bool bt) :: Y,false,none⟩
         have hDoes:Does Q C ops S1 D:=.pick G Y c a b bt rb d hGi hop (by rw [g4 c hts]; exact hσt) g6 rfl rfl rfl hd c2 rfl
         have haf:S1.after D = ⟨fset S1.σ d (.bool rb),fset S1.z d false⟩:=after_nil hd rfl
         have hdst:DstOk S1 D:=by
          intro d' hd'
          have hd':p.dst = some d':=hd'
          rw [hd] at hd'
          cases hd'
          have hin:∀ o∈sub,o.dst ≠ some d:=by
           intro o' ho' e
           obtain ⟨k',hk'⟩:=List.getElem?_of_mem ho'
           have:=hon _ _ _ _ d (hsubops k' o' hk') hpops e hd
           have hlt:=(List.getElem?_eq_some_iff.1 hk').1
           omega
          rw [g4 d hin]; exact ncont hpops (by omega) hd c3
         have hpure:Pure1 oth (i + sub.length,D):=by
          have hc9:Nat.testBit (getN oth (i + sub.length)) c = false:=disj_at (disj_symm c9) (by rw [testBit_bit]; simp)
          refine ⟨rfl,fun r hr => ?_,fun r hr u hu => ?_,fun u hu => (noLeads_bool hu).elim,rfl⟩
          ·rcases List.mem_append.1 hr with hr | hr
           ·exact hgo _ p hpops r.1 (hGm r hr).1
           ·rcases List.mem_cons.1 hr with rfl | hr
            ·exact hc9
            ·exact g7 r hr
          ·rcases List.mem_append.1 hr with hr | hr
           ·obtain ⟨w',hw'⟩:=(hGm r hr).2
            rw [hw'] at hu; exact (noLeads_bool hu).elim
           ·rcases List.mem_cons.1 hr with rfl | hr
            ·exact (noLeads_bool hu).elim
            ·revert g6 hr
             generalize (if bt = true then a else b) = y
             intro g6 hr
             cases g6 with
             | const v => cases hr
             | tmp t v h => simp only [List.mem_singleton] at hr; subst hr; exact (noLeads_bool hu).elim
         obtain ⟨s',S',rem,h1,h2,h3,h4,h5,h6,h7⟩:=ih g rest' (i + sub.length + 1) _ κ r (S1.after D) h (fun k o' hk => by
           have:=hops (sub.length + 1 + k) o' (by
            rw [← hsp,List.getElem?_append_right (by omega)]
            rw [show sub.length + 1 + k - sub.length = k + 1 by omega]
            simpa using hk)
           rwa [show i + (sub.length + 1 + k) = i + sub.length + 1 + k by omega] at this) (by
           rw [haf]
           intro k
           rw [get_put]
           simp only [fset]
           by_cases hk:k = d
           ·simp [hk]
           ·simp only [hk,if_false]
            have put1:∀ j,Leads (get (put (delL s sub) d (.bool rb)) j) k→Leads (get (delL s sub) j) k:=by
             intro j hl
             rw [get_put] at hl
             by_cases hj:j = d
             ·simp only [hj,if_true] at hl; exact (noLeads_bool hl).elim
             ·simpa only [hj,if_false] using hl
            by_cases hin:∃ o∈sub,o.dst = some k
            ·refine .inr ⟨get_delL_dst _ _ _ hin,fun j hl => ?_,?_⟩
             ·have:=disj_at c10 (stM_at (put1 j hl))
              rw [testBit_dstsM.2 hin] at this; cases this
             ·obtain ⟨o',ho',hd'⟩:=hin
              obtain ⟨k',hk'⟩:=List.getElem?_of_mem ho'
              have hlt:=(List.getElem?_eq_some_iff.1 hk').1
              exact ⟨i + k',o',by omega,hsubops k' o' hk',hd'⟩
            ·rw [g4 k fun o' ho' e => hin ⟨o',ho',e⟩]
             rcases get_delL sub s k with e | ⟨_,e⟩
             ·rw [e]
              rcases hW k with e' | ⟨e',h2',m,om,hm,hm2,hm3⟩
              ·exact .inl e'
              ·refine .inr ⟨e',fun j hl => ?_,m,om,by omega,hm2,hm3⟩
               have hl:=put1 j hl
               rcases get_delL sub s j with e3 | ⟨e3,_⟩
               ·rw [e3] at hl; exact h2' j hl
               ·rw [e3] at hl; simp [Leads,rootsM,refOf,fsts,masks] at hl
             ·exact (hin e).elim) (by
           intro j' w' e
           obtain ⟨t',h1,h2⟩:=hG1 j' w' e
           refine ⟨t',h1,?_⟩
           rw [haf]
           simp only [fset_ne _ _ (hgs t' (gslot_at e h1)).1]
           exact h2)
         have hmem:∀ o',o'∈o :: rest ↔ o'∈sub∨o' = p∨o'∈rest':=by intro o'; rw [← hsp]; simp
         have hlen:(o :: rest).length = sub.length + 1 + rest'.length:=by rw [← hsp]; simp; omega
         refine ⟨s',S',rem1 ++ (i + sub.length,D) :: rem,h1,by rw [hlen,show i + (sub.length + 1 + rest'.length) = i + sub.length + 1 + rest'.length by omega]; exact h2,g1.append (.cons _ _ _ _ _ hpops hDoes hdst h3),?_,?_,?_,h7⟩
         ·rw [fsts_append,g2]
          simp only [fsts,h4]
          rw [hlen,show sub.length + 1 + rest'.length = sub.length + (rest'.length + 1) by omega,← List.range'_append_1,List.range'_succ]
         ·intro q hq
          rcases List.mem_append.1 hq with hq | hq
          ·exact g3 q hq
          ·rcases List.mem_cons.1 hq with rfl | hq
           ·exact hpure
           ·exact h5 q hq
         ·intro k hk
          rw [h6 k fun o' ho' => hk o' ((hmem o').2 (.inr (.inr ho'))),haf]
          simp only [fset_ne _ _ (fun e => hk p ((hmem p).2 (.inr (.inl rfl))) (by rw [hd,e]):k ≠ d)]
          exact g4 k fun o' ho' => hk o' ((hmem o').2 (.inl ho'))
       ·cases h
      ·cases h
end
end Go.V

namespace Go.V
open Go
section
variable [Kp] [Fx]
theorem othGo_at (t:List Nat) (i:Nat):∀ (l:List Oper) (j₀ m:Nat) (o:Oper) (u:Nat),l[m]? = some o→i ≠ j₀ + m→Nat.testBit (getN t i) (j₀ + m) = false→Nat.testBit (getN t (j₀ + m)) i = false→o.dst = some u→Nat.testBit (othGo t i j₀ l) u = true
 | [],_,_,_,_,h,_,_,_,_ => by simp at h
 | x :: l,j₀,0,o,u,h,h1,h2,h3,hd => by
  simp at h; subst h
  simp only [Nat.add_zero] at h1 h2 h3
  unfold othGo
  rw [beq_false h1,h2,h3]
  simp only [Bool.or_false,cond_false,testBit_lor,Bool.or_eq_true]
  exact .inl (testBit_dstM.2 hd)
 | x :: l,j₀,m + 1,o,u,h,h1,h2,h3,hd => by
  unfold othGo
  have ih:=othGo_at t i l (j₀ + 1) m o u (by simpa using h) (by omega) (by rw [show j₀ + 1 + m = j₀ + (m + 1) by omega]; exact h2) (by rw [show j₀ + 1 + m = j₀ + (m + 1) by omega]; exact h3) hd
  cases (Nat.beq i j₀ || (Nat.testBit (getN t i) j₀ || Nat.testBit (getN t j₀) i))
  ·simp only [cond_false,testBit_lor,Bool.or_eq_true]; exact .inr ih
  ·exact ih
theorem othOf_at (t:List Nat) (ops:List Oper):∀ (n i k:Nat),k < n→getN (othOf t ops n i) k = othGo t (i + k) 0 ops
 | 0,_,_,h => by cases h
 | n + 1,i,0,_ => rfl
 | n + 1,i,k + 1,h => by simp only [othOf,getN]; rw [othOf_at t ops n (i + 1) k (by omega),show i + 1 + k = i + (k + 1) by omega]
theorem statOk_at {ops:List Oper} {oth:List Nat}:∀ {l:List Oper} {i:Nat},statOk ops oth i l = true→∀ k o,l[k]? = some o→disj (getN oth (i + k)) (guardM ops o) = true∧disj (getN oth (i + k)) (dstM o) = true
 | [],_,_,k,o,h => by simp at h
 | x :: l,i,h,0,o,hk => by
  simp only [statOk,Bool.and_eq_true] at h
  simp at hk; subst hk
  exact h.1
 | x :: l,i,h,k + 1,o,hk => by
  simp only [statOk,Bool.and_eq_true] at h
  have:=statOk_at h.2 k o (by simpa using hk)
  rwa [show i + 1 + k = i + (k + 1) by omega] at this
theorem TblOk.lt {ops:List Oper} {t:List Nat} (ht:TblOk ops t) (hback:∀ i o,ops[i]? = some o→∀ e∈o.after,bindsB e = true→e.on < i):∀ k j,Nat.testBit (getN t k) j = true→j < k:=by
 intro k
 induction k using Nat.strongRecOn with
 | _ k ih =>
  intro j hj
  obtain ⟨o,h1,e,h2,h3,h4⟩:=ht.at_ k j hj
  have:=hback k o h1 e h2 h3
  rcases h4 with rfl | ⟨h5,h6⟩
  ·exact this
  ·have:=ih e.on h5 j h6; omega
theorem RelA.heap {w w':World} {σ:Nat→SV} {a:Act} {N:Nat} {own:Nat→List Nat} (h:RelA w σ a N own) (hh:w'.heap = w.heap):RelA w' σ a N own:=⟨h.size,h.defers,h.rel.heap hh,h.out,h.fix⟩
theorem mem_fsts_at {rem:List (Nat×Data)} {q:Nat×Data} (h:q∈rem):q.1∈fsts rem:=mem_fsts.2 ⟨q.2,h⟩
theorem pure_own {oth:List Nat} {p:Nat×Data} (h:Pure1 oth p):Own p.2:=by
 refine ⟨by rw [h.steps]; exact StepsOk.nil,fun u hu => ?_,fun d _ hu => ?_⟩
 ·rw [h.steps] at hu; cases hu
 ·rw [h.steps] at hu; cases hu
theorem Chain.ops_at {Q:FuncId→List SV→Res→Prop} {C:Ctx} {ops:List Oper} {S S':VS} {rem:List (Nat×Data)} (h:Chain Q C ops S rem S'):∀ q∈rem,ops[q.1]? = some q.2.o:=by
 induction h with
 | nil S => simp
 | cons S i D l S' hi hD hd hc ih =>
  intro q hq
  rcases List.mem_cons.1 hq with rfl | hq
  ·exact hi
  ·exact ih q hq
theorem onceD_at:∀ {l:List Oper} {m:Nat},onceD m l = true→(∀ o∈l,∀ d,o.dst = some d→Nat.testBit m d = false)∧∀ (i j:Nat) (o o':Oper) (d:Nat),l[i]? = some o→l[j]? = some o'→o.dst = some d→o'.dst = some d→i = j
 | [],_,_ => ⟨by simp,by intro i j o o' d h; simp at h⟩
 | x :: l,m,h => by
  simp only [onceD,Bool.and_eq_true] at h
  obtain ⟨h1,h2⟩:=onceD_at h.2
  have hx:∀ d,x.dst = some d→Nat.testBit m d = false:=by
   intro d hd
   cases hb:Nat.testBit m d with
   | false => rfl
   | true => have:=disj_at h.1 hb; rw [testBit_dstM.2 hd] at this; cases this
  have hl:∀ o∈l,∀ d,o.dst = some d→Nat.testBit m d = false∧x.dst ≠ some d:=by
   intro o ho d hd
   have:=h1 o ho d hd
   rw [testBit_lor,Bool.or_eq_false_iff] at this
   exact ⟨this.1,fun e => by rw [testBit_dstM.2 e] at this; cases this.2⟩
  refine ⟨fun o ho d hd => ?_,fun i j o o' d hi hj hd hd' => ?_⟩
  ·rcases List.mem_cons.1 ho with rfl | ho
   ·exact hx d hd
   ·exact (hl o ho d hd).1
  ·cases i with
   | zero =>
    cases j with
    | zero => rfl
    | succ j =>
     simp at hi hj
     subst hi
     exact ((hl o' (List.mem_of_getElem? hj) d hd').2 hd).elim
   | succ i =>
    cases j with
    | zero =>
     simp at hi hj
     subst hj
     exact ((hl o (List.mem_of_getElem? hi) d hd).2 hd').elim
    | succ j =>
     rw [h2 i j o o' d (by simpa using hi) (by simpa using hj) hd hd']
theorem strict_ok {Φ:Oracle} {Q:FuncId→List SV→Res→Prop} (h:OracleOk Φ Q):OracleOk (strict Φ) fun f vs r => Q f vs r∧(freshR r || vs.all noSl) = true:=by
 intro f vs β κ r hr
 obtain ⟨res,h1,h2⟩:=h f vs β _ r hr
 cases hc:(freshR res || vs.all noSl) with
 | false => rw [hc] at h2; cases h2
 | true => rw [hc] at h2; exact ⟨res,⟨h1,hc⟩,h2⟩
section
variable {P:Program} {Q:FuncId→List SV→Res→Prop} {C:Ctx} {Φ:Oracle} {a:Act} {w:World} {own:Nat→List Nat} {N:Nat} {Qx:Exit→Act→World→Prop} {ops:List Oper}
theorem srun_sound (hP:C.P = P) (hN:CN C N) (hQ:∀ f vs res,Q f vs res→Snd P f vs res) (hΦ:OracleOk Φ Q) (hon:(∀ o∈ops,o.guard = none)∨Once ops) {own₀:Nat→List Nat} {w₀:World}:∀ (n:Nat) (l:List Oper) (i:Nat) (s:St) {β:Type} (κ:St→Option β) (r:β) (a:Act) (w:World) (own:Nat→List Nat),
  srun C Φ ops n i l s β κ = some r→(∀ k o,l[k]? = some o→ops[i + k]? = some o)→RelA w (get s) a N own→Later w₀ own₀ w own →
  (∀ s' a' w' own',κ s' = some r→RelA w' (get s') a' N own'→Later w₀ own₀ w' own'→Qx .normal a' w')→wpOps P ops.toArray Qx (List.range' i l.length) a w:=by
 intro n
 induction n with
 | zero =>
  intro l i s β κ r a w own h hops hR hL hend
  cases l with
  | nil => exact hend s a w own h hR hL
  | cons o l => cases h
 | succ n ih =>
  intro l i s β κ r a w own h hops hR hL hend
  cases l with
  | nil => exact hend s a w own h hR hL
  | cons o rest =>
   unfold srun at h
   have hi:ops[i]? = some o:=by simpa using hops 0 o (by simp)
   cases hg:o.guard with
   | none =>
    rw [hg] at h
    simp only at h
    obtain ⟨steps,h1,h2⟩:=RD.comes_of_run hΦ _ _ _ _ h
    simp only [List.length_cons,List.range'_succ]
    rw [wpOps_cons]
    unfold wpOp
    have hi':ops.toArray[i]? = some o:=by simpa using hi
    simp only [hi']
    have hw:Region.wanted o (yielded ops.toArray a.tmps) = true:=by unfold Region.wanted; rw [hg]
    rw [if_pos hw]
    refine .inl (OpOk.wp (exec_sound (P:=P) hP hN hQ hR h1) ?_)
    rintro v w' ⟨own',hR',hL'⟩
    have hjunk:∀ f,Step.all f∈steps→f .junk = .junk:=by
     obtain ⟨x,hx,hc⟩:=RD.comes_bind h1
     have hok:=opR_steps (b:=true) (by intro h; cases h) hx
     intro f hf
     cases hd:o.dst with
     | none => rw [hd] at hc; have hc:x.2 = steps:=hc; subst hc; exact hok.junk hf
     | some d =>
      rw [hd] at hc
      obtain ⟨_,hc⟩:=hc
      obtain ⟨_,_,hc⟩:=RD.comes_bind hc
      have hc:x.2 ++ ((bif isCont (stepsAt d (get s d) x.2) then [kill d none] else []) ++ [.up d fun _ => x.1]) = steps:=hc
      subst hc
      rcases List.mem_append.1 hf with hf | hf
      ·exact hok.junk hf
      ·rcases List.mem_append.1 hf with hf | hf
       ·revert hf
        cases isCont (stepsAt d (get s d) x.2)
        ·intro hf; cases hf
        ·intro hf; simp only [cond_true,kill,List.mem_singleton,Step.all.injEq] at hf; subst hf; rfl
       ·cases hf with | tail _ h => cases h
    rw [← get_steps steps s hjunk] at hR'
    exact ih rest (i + 1) _ κ r _ _ _ h2 (fun k o' hk => by
     have:=hops (k + 1) o' (by simpa using hk)
     rwa [show i + (k + 1) = i + 1 + k by omega] at this) hR' (hL.trans hL') hend
   | some q =>
    rw [hg] at h
    simp only at h
    have hsp:=upTo_split none (o :: rest)
    generalize upTo none (o :: rest) = U at h hsp
    obtain ⟨sub,tl⟩:=U
    cases tl with
    | nil => cases h
    | cons p rest' =>
     simp only at h hsp
     have hz:RelZ w ⟨get s,fun _ => false⟩ a N own:=⟨hR,fun t ht => by cases ht⟩
     have hon:Once ops:=by
      refine hon.resolve_left fun hno => ?_
      have:=hno o (List.mem_of_getElem? hi)
      rw [hg] at this; cases this
     obtain ⟨s',S',rem,h1,h2,h3,h4,h5,h6,h7⟩:=prun_sound (Q:=Q) (C:=C) (ops:=ops) (oth:=[]) hΦ (by intro i o _ u _; simp [getN]) hon (n + 1) none (sub ++ [p]) i s _ r ⟨get s,fun _ => false⟩ h (fun k o' hk => by
       refine hops k o' ?_
       rw [← hsp]
       have hlt:=(List.getElem?_eq_some_iff.1 hk).1
       rw [show sub ++ p :: rest' = (sub ++ [p]) ++ rest' by simp,List.getElem?_append_left hlt]
       exact hk) (Gone.refl _ _) (by intro j w e; cases e)
     have hlen:(o :: rest).length = (sub ++ [p]).length + rest'.length:=by rw [← hsp]; simp; omega
     rw [hlen,← List.range'_append_1,← h4]
     refine chain_seq hP hN hQ _ (S':=S') (own₀:=own₀) (w₀:=w₀) ?_ rem _ a w own h3 (fun q hq => ⟨by rw [(h5 q hq).steps]; exact StepsOk.nil,fun d _ hu => by rw [(h5 q hq).steps] at hu; cases hu⟩) hz hL
     intro a' w' own' hR' hL'
     obtain ⟨own'',hR'',hF⟩:=hR'.rel.weak h2.weak
     have hl2:(sub ++ [p]).length = sub.length + 1:=by simp
     rw [hl2]
     exact ih rest' (i + (sub.length + 1)) s' κ r a' w' own'' (by rw [show i + (sub.length + 1) = i + sub.length + 1 by omega]; exact h1) (fun k o' hk => by
      have:=hops (sub.length + 1 + k) o' (by
       rw [← hsp,List.getElem?_append_right (by omega)]
       rw [show sub.length + 1 + k - sub.length = k + 1 by omega]
       simpa using hk)
      rwa [show i + (sub.length + 1 + k) = i + (sub.length + 1) + k by omega] at this) hR'' (hL'.fewer hF) hend
theorem asPick_spec {o:Oper} {c d:Nat} {x y:Operand} (h:asPick o = some (c,x,y,d)):o.op = .pick (.tmp c) x y∧o.dst = some d:=by
 unfold asPick at h
 split at h
 ·next h1 h2 => cases h; exact ⟨h1,h2⟩
 ·cases h
theorem fset_same {α:Type} {f:Nat→α} {i:Nat} {x:α} (h:f i = x):fset f i x = f:=by
 funext k
 unfold fset
 by_cases e:k = i
 ·subst e; simp [h]
 ·simp [e]
theorem grun_sound (hP:C.P = P) (hN:CN C N) (hQ:∀ f vs res,Q f vs res→Snd P f vs res) (hΦ:OracleOk Φ Q) {own₀:Nat→List Nat} {w₀:World} {β:Type} {κ:St→Option β} {r:β}
  (hend:∀ s' a' w' own',κ s' = some r→RelA w' (get s') a' N own'→Later w₀ own₀ w' own'→Qx .normal a' w'):∀ (l:List Oper) (z i:Nat) (s:St) (a:Act) (w:World) (own:Nat→List Nat),
  grun C Φ ops z i l s β κ = some r→(∀ k o,l[k]? = some o→ops[i + k]? = some o)→RelZ w ⟨get s,Nat.testBit z⟩ a N own→Later w₀ own₀ w own→wpOps P ops.toArray Qx (List.range' i l.length) a w:=by
 intro l
 induction l with
 | nil => intro z i s a w own h _ hR hL; exact hend s a w own h hR.rel hL
 | cons o rest ih =>
  intro z i s a w own h hops hR hL
  have hi:ops[i]? = some o:=by simpa using hops 0 o (by simp)
  have hi':ops.toArray[i]? = some o:=by simpa using hi
  have hops':∀ k o',rest[k]? = some o'→ops[i + 1 + k]? = some o':=fun k o' hk => by
   have:=hops (k + 1) o' (by simpa using hk)
   rwa [show i + (k + 1) = i + 1 + k by omega] at this
  simp only [List.length_cons,List.range'_succ]
  rw [wpOps_cons]
  unfold grun at h
  have doit:∀ (s:St),RelZ w ⟨get s,Nat.testBit z⟩ a N own→∀ (G:List (Nat×SV)),GuardIs ops ⟨get s,Nat.testBit z⟩ o true G→(bif disj z (dstM o) then (match asPick o with
     | some (c,a,b,d) => match get s c with
      | .bool bt => bif okD C d && !isCont (get s d) then (bif bt then selP s 0 a else selP s 0 b).bind fun r => grun C Φ ops z (i + 1) rest (put s d (.bool r)) β κ else none
      | _ => none
     | none => (execR C o).run Φ (get s) fun steps => grun C Φ ops z (i + 1) rest (stepsA s steps) β κ) else none) = some r →
    wpOp P ops.toArray Qx i (fun a w => wpOps P ops.toArray Qx (List.range' (i + 1) rest.length) a w) a w:=by
   intro s hR G hG h
   obtain ⟨hdz,h⟩:=bif_some h
   have hzd:∀ d,o.dst = some d→Nat.testBit z d = false:=by
    intro d hd
    cases hb:Nat.testBit z d with
    | false => rfl
    | true => have:=disj_at hdz hb; rw [testBit_dstM.2 hd] at this; cases this
   cases hp:asPick o with
   | none =>
    rw [hp] at h
    simp only at h
    obtain ⟨steps,h1,h2⟩:=RD.comes_of_run hΦ _ _ _ _ h
    unfold wpOp
    simp only [hi']
    rw [if_pos (wanted_of hG hR)]
    refine .inl (OpOk.wp (exec_sound (P:=P) hP hN hQ hR.rel h1) ?_)
    rintro v w' ⟨own',hR',hL'⟩
    have hjunk:∀ f,Step.all f∈steps→f .junk = .junk:=by
     obtain ⟨x,hx,hc⟩:=RD.comes_bind h1
     have hok:=opR_steps (b:=true) (by intro h; cases h) hx
     intro f hf
     cases hd:o.dst with
     | none => rw [hd] at hc; have hc:x.2 = steps:=hc; subst hc; exact hok.junk hf
     | some d =>
      rw [hd] at hc
      obtain ⟨_,hc⟩:=hc
      obtain ⟨_,_,hc⟩:=RD.comes_bind hc
      have hc:x.2 ++ ((bif isCont (stepsAt d (get s d) x.2) then [kill d none] else []) ++ [.up d fun _ => x.1]) = steps:=hc
      subst hc
      rcases List.mem_append.1 hf with hf | hf
      ·exact hok.junk hf
      ·rcases List.mem_append.1 hf with hf | hf
       ·revert hf
        cases isCont (stepsAt d (get s d) x.2)
        ·intro hf; cases hf
        ·intro hf; simp only [cond_true,kill,List.mem_singleton,Step.all.injEq] at hf; subst hf; rfl
       ·cases hf with | tail _ h => cases h
    rw [← get_steps steps s hjunk] at hR'
    refine ih z (i + 1) _ _ _ _ h2 hops' ⟨hR',fun t ht => ?_⟩ (hL.trans hL')
    cases hd:o.dst with
    | none => exact hR.und t ht
    | some d =>
     by_cases hdn:d < a.tmps.size
     ·rw [tv_put hdn]
      have:t ≠ d:=by
       rintro rfl
       have ht:Nat.testBit z t = true:=ht
       rw [hzd t hd] at ht; cases ht
      rw [fset_ne _ _ this]
      exact hR.und t ht
     ·have e2:a.put (some d) v = a:=by
       simp only [Act.put]
       rw [Array.setIfInBounds_eq_of_size_le (Nat.le_of_not_lt hdn)]
      rw [e2]; exact hR.und t ht
   | some q =>
    obtain ⟨c,x,y,d⟩:=q
    rw [hp] at h
    simp only at h
    obtain ⟨hop,hd⟩:=asPick_spec hp
    cases hc:get s c with
    | bool bt =>
     rw [hc] at h
     simp only at h
     obtain ⟨hck,h⟩:=bif_some h
     simp only [Bool.and_eq_true,Bool.not_eq_true'] at hck
     obtain ⟨rb,hrb,h⟩:=Option.bind_eq_some_iff.1 h
     have hsel:selP s 0 (if bt then x else y) = some rb:=by cases bt <;> exact hrb
     have hpk:∃ Y,Picks ⟨get s,Nat.testBit z⟩ (if bt then x else y) rb Y:=by
      rcases selP_spec hsel with e | ⟨t',e,h1,_⟩
      ·rw [e]; exact ⟨_,.const rb⟩
      ·rw [e]; exact ⟨_,.tmp t' rb h1⟩
     obtain ⟨Y,hY⟩:=hpk
     let D:Data:=⟨o,(.bool rb,[]),G ++ (c,.bool bt) :: Y,false,none⟩
     have hDoes:Does Q C ops ⟨get s,Nat.testBit z⟩ D:=.pick G Y c x y bt rb d hG hop hc hY rfl rfl rfl hd hck.1 rfl
     have hDst:DstOk ⟨get s,Nat.testBit z⟩ D:=by
      intro d' hd'
      have hd':o.dst = some d':=hd'
      rw [hd] at hd'
      cases hd'
      exact hck.2
     refine does_sound hP hN hQ hi hDoes hDst StepsOk.nil (fun _ _ h => by cases h) hR fun a' w' own' hR' hL' => ?_
     rw [after_nil (D:=D) hd rfl] at hR'
     refine ih z (i + 1) _ _ _ _ h hops' ?_ (hL.trans hL')
     rw [get_put_eq]
     have:fset (Nat.testBit z) d false = Nat.testBit z:=fset_same (hzd d hd)
     have hR':RelZ w' ⟨fset (get s) d (.bool rb),fset (Nat.testBit z) d false⟩ a' N own':=hR'
     rwa [this] at hR'
    | _ => rw [hc] at h; cases h
  have skip:∀ (s:St),RelZ w ⟨get s,Nat.testBit z⟩ a N own→∀ (G:List (Nat×SV)),GuardIs ops ⟨get s,Nat.testBit z⟩ o false G→(match o.dst with
     | some d => bif okD C d && !isCont (get s d) then grun C Φ ops (Nat.lor z (bit d)) (i + 1) rest (del s d) β κ else none
     | none => none) = some r →
    wpOp P ops.toArray Qx i (fun a w => wpOps P ops.toArray Qx (List.range' (i + 1) rest.length) a w) a w:=by
   intro s hR G hG h
   cases hd:o.dst with
   | none => rw [hd] at h; cases h
   | some d =>
    rw [hd] at h
    simp only at h
    obtain ⟨hck,h⟩:=bif_some h
    simp only [Bool.and_eq_true,Bool.not_eq_true'] at hck
    let D:Data:=⟨o,(.junk,[]),G,true,none⟩
    have hDoes:Does Q C ops ⟨get s,Nat.testBit z⟩ D:=.skip d hG rfl rfl hd hck.1 rfl
    have hDst:DstOk ⟨get s,Nat.testBit z⟩ D:=by
     intro d' hd'
     have hd':o.dst = some d':=hd'
     rw [hd] at hd'
     cases hd'
     exact hck.2
    refine does_sound hP hN hQ hi hDoes hDst StepsOk.nil (fun _ _ h => by cases h) hR fun a' w' own' hR' hL' => ?_
    rw [after_nil (D:=D) hd rfl] at hR'
    refine ih _ (i + 1) _ _ _ _ h hops' ?_ (hL.trans hL')
    have hR':RelZ w' ⟨fset (get s) d .junk,fset (Nat.testBit z) d true⟩ a' N own':=hR'
    have e1:get (del s d) = fset (get s) d .junk:=by funext k; rw [get_del]; rfl
    have e2:Nat.testBit (Nat.lor z (bit d)) = fset (Nat.testBit z) d true:=by
     funext k
     rw [testBit_lor,testBit_bit]
     unfold fset
     by_cases e:k = d
     ·subst e; simp
     ·have:decide (d = k) = false:=decide_eq_false fun h => e h.symm
      simp [e,this]
    rw [e1,e2]; exact hR'
  cases hg:o.guard with
  | none => rw [hg] at h; exact doit s hR [] (.free hg) h
  | some q =>
   obtain ⟨j,g⟩:=q
   rw [hg] at h
   simp only at h
   cases ht:slotAt ops j with
   | none => rw [ht] at h; cases h
   | some t =>
    rw [ht] at h
    simp only at h
    cases hz:Nat.testBit z t with
    | true => rw [hz,cond_true] at h; exact skip s hR _ (.no j g t hg ht (.inr hz)) h
    | false =>
     rw [hz,cond_false] at h
     cases hv:get s t with
     | bool bt =>
      rw [hv] at h
      simp only at h
      have same:∀ b,bt = b→get (put s t (.bool b)) = get s:=by
       intro b e
       rw [get_put_eq]
       exact fset_same (by rw [hv,e])
      cases bt with
      | true =>
       rw [cond_true] at h
       have e:=same true rfl
       cases g with
       | true => rw [cond_true] at h; exact doit _ (by rw [e]; exact hR) _ (.yes j true t hg ht (by show get _ t = _; rw [e]; exact hv)) h
       | false => rw [cond_false] at h; exact skip _ (by rw [e]; exact hR) _ (.no j false t hg ht (.inl (by show get _ t = _; rw [e]; exact hv))) h
      | false =>
       rw [cond_false] at h
       have e:=same false rfl
       cases g with
       | true => rw [cond_true] at h; exact skip _ (by rw [e]; exact hR) _ (.no j true t hg ht (.inl (by show get _ t = _; rw [e]; exact hv))) h
       | false => rw [cond_false] at h; exact doit _ (by rw [e]; exact hR) _ (.yes j false t hg ht (by show get _ t = _; rw [e]; exact hv)) h
     | _ => rw [hv] at h; cases h
theorem regR_sound (hm:P.follows .mixedOrders = true) (hP:C.P = P) (hN:CN C N) (hQ:∀ f vs res,Q f vs res→Snd P f vs res) (hΦ:OracleOk Φ Q) {id:Nat} {arr:Array Oper} {draw:Bool} {s:St} {β:Type} {κ:St→Option β} {r:β}
  {gs:Bool} (h:regR C Φ gs arr.toList draw s β κ = some r) (hR:RelA w (get s) a N own) (hend:∀ s' a' w' own',κ s' = some r→RelA w' (get s') a' N own'→Later w own w' own'→Qx .normal a' w'):(Code.region id arr draw).wp P Qx a w:=by
 have harr:arr.toList.toArray = arr:=by simp
 unfold regR at h
 have hon:(∀ o∈arr.toList,o.guard = none)∨Once arr.toList:=by
  cases hc:arr.toList.all (fun o => !hasG o.guard) with
  | true =>
   refine .inl fun o ho => ?_
   have:=List.all_eq_true.1 hc o ho
   cases hg:o.guard with
   | none => rfl
   | some g => rw [hg] at this; cases this
  | false =>
   cases ho:onceD 0 arr.toList with
   | true => exact .inr (onceD_at ho).2
   | false => rw [hc,ho] at h; cases h
 have h:(bif draw then (bif !backOk 0 arr.toList then none else
   bif arr.toList.all (fun o => !hasG o.guard) then drun C (strict Φ) (tblOf arr.toList) 0 arr.toList [] s β κ
    else (fun oth => bif statOk arr.toList oth 0 arr.toList then prun C Φ arr.toList oth arr.toList.length none 0 arr.toList s β κ else none) (othOf (tblOf arr.toList) arr.toList arr.toList.length 0))
  else bif gs then grun C Φ arr.toList 0 0 arr.toList s β κ else srun C Φ arr.toList arr.toList.length 0 arr.toList s β κ) = some r:=by
  cases hc:(arr.toList.all (fun o => !hasG o.guard) || onceD 0 arr.toList) with
  | true => rw [hc,cond_true] at h; exact h
  | false => rw [hc] at h; cases h
 cases draw with
 | false =>
  rw [cond_false] at h
  refine wp_region ?_
  cases gs with
  | true =>
   rw [cond_true] at h
   have hz0:Nat.testBit 0 = fun _ => false:=by funext k; simp
   have:=grun_sound (Qx:=Qx) (ops:=arr.toList) hP hN hQ hΦ (own₀:=own) (w₀:=w) hend arr.toList 0 0 s a w own h (fun k o hk => by simpa using hk) ⟨hR,fun t ht => by simp at ht⟩ (Later.refl w own)
   rw [harr] at this
   rwa [List.range_eq_range',show arr.size = arr.toList.length by simp]
  | false =>
  rw [cond_false] at h
  have:=srun_sound (Qx:=Qx) hP hN hQ hΦ hon (own₀:=own) (w₀:=w) _ _ 0 s κ r a w own h (fun k o hk => by simpa using hk) hR (Later.refl w own) hend
  rw [harr] at this
  rwa [List.range_eq_range',show arr.size = arr.toList.length by simp]
 | true =>
  rw [cond_true] at h
  cases hb:backOk 0 arr.toList with
  | false => rw [hb] at h; cases h
  | true =>
  rw [hb] at h
  simp only [Bool.not_true,cond_false] at h
  have hback:∀ i o,arr.toList[i]? = some o→∀ e∈o.after,bindsB e = true→e.on < i:=by
   intro i o hi e he hbb
   have:=backOk_at hb i o hi e he hbb
   omega
  have hT:=tblOk arr.toList
  refine wp_region_any hm ?_
  have hR0:RelA { w with drawn:=w.drawn + 1 } (get s) a N own:=hR.heap rfl
  have hL0:Later w own { w with drawn:=w.drawn + 1 } own:=⟨⟨rfl,rfl,rfl,Nat.le_refl _,fun _ _ _ => rfl⟩,fun i b hb => .inl ⟨i,hb⟩⟩
  have hz:RelZ { w with drawn:=w.drawn + 1 } ⟨get s,fun _ => false⟩ a N own:=⟨hR0,fun t ht => by cases ht⟩
  have finish:∀ (Q':FuncId→List SV→Res→Prop) (S':VS) (s':St) (rem:List (Nat×Data)),(∀ f vs res,Q' f vs res→Q f vs res)→κ s' = some r→Weak (get s') S'.σ→Chain Q' C arr.toList ⟨get s,fun _ => false⟩ rem S'→fsts rem = List.range' 0 arr.toList.length→(∀ q∈rem,Own q.2)→rem.Pairwise (PairOk (tblOf arr.toList)) →
    wpAny P .any arr Qx arr.size (Array.replicate arr.size false) a { w with drawn:=w.drawn + 1 }:=by
   intro Q' S' s' rem hQ' h1 h2 h3 h4 h5 h6
   have hlen:rem.length = arr.size:=by
    have:(fsts rem).length = rem.length:=by clear h3 h4 h5 h6; induction rem with | nil => rfl | cons x l ih => simp [fsts,ih]
    rw [← this,h4]; simp
   have:=chain_any (Q:=Q') (Qx:=Qx) hP hN (fun f vs res hq => hQ f vs res (hQ' f vs res hq)) hT hback (S':=S') (own₀:=own) (w₀:=w) (fun a' w' own' hR' hL' => by
    obtain ⟨own'',hR'',hF⟩:=hR'.rel.weak h2
    exact hend s' a' w' own'' h1 hR'' (hL'.fewer hF)) arr.size rem ⟨get s,fun _ => false⟩ (Array.replicate arr.size false) a { w with drawn:=w.drawn + 1 } own hlen (by simp) h3 h5 h6 (fun i => by
     rw [h4,List.mem_range'_1]
     constructor
     ·rintro ⟨h,_⟩; simpa using h
     ·intro h
      have:i < arr.size:=by simpa using h.2
      simp [this]) (fun k o hk => by
     exfalso
     by_cases hlt:k < arr.size
     ·simp [hlt] at hk
     ·simp [Array.getElem?_eq_none,hlt] at hk) hz hL0
   rwa [harr] at this
  cases hall:arr.toList.all (fun o => !hasG o.guard) with
  | true =>
   rw [hall,cond_true] at h
   obtain ⟨s',z',rem,h1,h2,h3,h4,h5,_⟩:=drun_sound (Q:=fun f vs r => Q f vs r∧(freshR r || vs.all noSl) = true) (C:=C) (ops:=arr.toList) (by intro _ f vs r h; exact h.2) (strict_ok hΦ) (tblOf arr.toList) κ r arr.toList 0 [] [] s (fun _ => false) h (fun k o hk => by simpa using hk) (by simp)
   exact finish _ _ s' rem (fun f vs res h => h.1) h1 (Weak.refl _) h2 h3 h4 h5
  | false =>
   rw [hall,cond_false] at h
   cases hst:statOk arr.toList (othOf (tblOf arr.toList) arr.toList arr.toList.length 0) 0 arr.toList with
   | false => simp only [hst] at h; cases h
   | true =>
    simp only [hst,cond_true] at h
    have hstat:=statOk_at hst
    obtain ⟨s',S',rem,h1,h2,h3,h4,h5,_⟩:=prun_sound (Q:=Q) (C:=C) (ops:=arr.toList) (oth:=othOf (tblOf arr.toList) arr.toList arr.toList.length 0) hΦ (by
      intro i o hi u hu
      have:=(hstat i o hi).1
      rw [Nat.zero_add] at this
      exact disj_at (disj_symm this) hu) (hon.resolve_left fun hno => by
       have:arr.toList.all (fun o => !hasG o.guard) = true:=List.all_eq_true.2 fun o ho => by rw [hno o ho]; rfl
       rw [hall] at this; cases this) _ none arr.toList 0 s κ r ⟨get s,fun _ => false⟩ h (fun k o hk => by simpa using hk) (Gone.refl _ _) (by intro j w e; cases e)
    refine finish Q S' s' rem (fun _ _ _ h => h) h1 h2.weak h3 h4 (fun q hq => pure_own (h5 q hq)) ?_
    have hmem:∀ q∈rem,arr.toList[q.1]? = some q.2.o:=h3.ops_at
    have apart:∀ p∈rem,∀ q∈rem,p.1 ≠ q.1→Nat.testBit (getN (tblOf arr.toList) q.1) p.1 = false→Nat.testBit (getN (tblOf arr.toList) p.1) q.1 = false→Apart p.2 q.2:=by
     intro p hp q hq hne hn1 hn2
     have hqlt:q.1 < arr.toList.length:=(List.getElem?_eq_some_iff.1 (hmem q hq)).1
     have hmark:∀ u∈upsL (putSteps p.2.o p.2.x),Nat.testBit (getN (othOf (tblOf arr.toList) arr.toList arr.toList.length 0) q.1) u = true:=by
      intro u hu
      rcases (upsL_put _ _ _).1 hu with h | h
      ·rw [(h5 p hp).steps] at h; cases h
      ·rw [othOf_at _ _ _ _ _ hqlt,Nat.zero_add]
       exact othGo_at _ _ _ 0 p.1 p.2.o u (hmem p hp) (by omega) (by rw [Nat.zero_add]; exact hn1) (by rw [Nat.zero_add]; exact hn2) h
     have hp1:=h5 q hq
     refine ⟨fun u hu r hr e => ?_,fun u hu e => ?_,fun u hu r hr hl => ?_,.inl fun u hu hl => ?_,fun t v hl _ => ?_,fun u hu r hr hm => ?_,.inl (h5 p hp).steps⟩
     ·have:=hmark u hu
      rw [← e,hp1.asks r hr] at this; cases this
     ·have:=hmark u hu
      have h2:=(hstat q.1 q.2.o (hmem q hq)).2
      rw [Nat.zero_add] at h2
      rw [disj_at (disj_symm h2) (testBit_dstM.2 e)] at this; cases this
     ·have:=hmark u hu
      rw [hp1.roots r hr u hl] at this; cases this
     ·have:=hmark u hu
      rw [hp1.val u hl] at this; cases this
     ·rw [hp1.ptr] at hl; cases hl
     ·rw [hp1.steps] at hm; cases hm
    have hsorted:∀ (l:List (Nat×Data)) (i n:Nat),fsts l = List.range' i n→(∀ q∈l,q∈rem)→l.Pairwise (PairOk (tblOf arr.toList)):=by
     intro l
     induction l with
     | nil => intro i n _ _; exact List.Pairwise.nil
     | cons p l ih =>
      intro i n hf hmem'
      cases n with
      | zero => cases hf
      | succ n =>
       rw [List.range'_succ] at hf
       simp only [fsts,List.cons.injEq] at hf
       refine List.pairwise_cons.2 ⟨fun q hq => ?_,ih (i + 1) n hf.2 fun q hq => hmem' q (by simp [hq])⟩
       have hq1:q.1∈List.range' (i + 1) n:=by rw [← hf.2]; exact mem_fsts_at hq
       rw [List.mem_range'_1] at hq1
       have hlt:p.1 < q.1:=by omega
       refine ⟨hlt,?_⟩
       cases hb2:Nat.testBit (getN (tblOf arr.toList) q.1) p.1 with
       | true => exact .inl rfl
       | false =>
        have hb3:Nat.testBit (getN (tblOf arr.toList) p.1) q.1 = false:=by
         cases hb3:Nat.testBit (getN (tblOf arr.toList) p.1) q.1 with
         | false => rfl
         | true => have:=hT.lt hback _ _ hb3; omega
        exact .inr ⟨apart p (hmem' p (by simp)) q (hmem' q (by simp [hq])) (by omega) hb2 hb3,apart q (hmem' q (by simp [hq])) p (hmem' p (by simp)) (by omega) hb3 hb2⟩
    exact hsorted rem 0 _ h4 fun q hq => hq
end
end
end Go.V

namespace Go.V
open Go
inductive At:Code→Nat→Code→Nat→Prop
 | refl (c:Code) (p:Nat):At c p c p
 | seqL {a b c:Code} {p q:Nat} (h:At a (2 * p) c q):At (.seq a b) p c q
 | seqR {a b c:Code} {p q:Nat} (h:At b (2 * p + 1) c q):At (.seq a b) p c q
 | condT {x:Operand} {a b c:Code} {p q:Nat} (h:At a (2 * p) c q):At (.cond x a b) p c q
 | condF {x:Operand} {a b c:Code} {p q:Nat} (h:At b (2 * p + 1) c q):At (.cond x a b) p c q
 | block {i:Nat} {a c:Code} {p q:Nat} (h:At a (2 * p) c q):At (.block i a) p c q
 | loop {a c:Code} {p q:Nat} (h:At a (2 * p) c q):At (.loop a) p c q
theorem At.trans {a b c:Code} {p q r:Nat} (h:At a p b q) (h':At b q c r):At a p c r:=by
 induction h with
 | refl c p => exact h'
 | seqL _ ih => exact .seqL (ih h')
 | seqR _ ih => exact .seqR (ih h')
 | condT _ ih => exact .condT (ih h')
 | condF _ ih => exact .condF (ih h')
 | block _ ih => exact .block (ih h')
 | loop _ ih => exact .loop (ih h')
def findAt (q:Nat):Code→Nat→List Code
 | .seq a b,p => bif Nat.beq p q then [.seq a b] else findAt q a (2 * p) ++ findAt q b (2 * p + 1)
 | .cond x a b,p => bif Nat.beq p q then [.cond x a b] else findAt q a (2 * p) ++ findAt q b (2 * p + 1)
 | .block i a,p => bif Nat.beq p q then [.block i a] else findAt q a (2 * p)
 | .loop a,p => bif Nat.beq p q then [.loop a] else findAt q a (2 * p)
 | c,p => bif Nat.beq p q then [c] else []
theorem At.ge {a c:Code} {p q:Nat} (h:At a p c q):p≤q:=by
 induction h <;> omega
theorem findAt_mem {a c:Code} {p q:Nat} (h:At a p c q) (hp:0 < p):c∈findAt q a p:=by
 induction h with
 | refl c p => cases c <;> simp [findAt]
 | seqL h ih =>
  rename_i a b c p q
  unfold findAt
  cases hb:Nat.beq p q with
  | true => have e:=Nat.eq_of_beq_eq_true hb; have:=h.ge; omega
  | false => simp [ih (by omega)]
 | seqR h ih =>
  rename_i a b c p q
  unfold findAt
  cases hb:Nat.beq p q with
  | true => have e:=Nat.eq_of_beq_eq_true hb; have:=h.ge; omega
  | false => simp [ih (by omega)]
 | condT h ih =>
  rename_i x a b c p q
  unfold findAt
  cases hb:Nat.beq p q with
  | true => have e:=Nat.eq_of_beq_eq_true hb; have:=h.ge; omega
  | false => simp [ih (by omega)]
 | condF h ih =>
  rename_i x a b c p q
  unfold findAt
  cases hb:Nat.beq p q with
  | true => have e:=Nat.eq_of_beq_eq_true hb; have:=h.ge; omega
  | false => simp [ih (by omega)]
 | block h ih =>
  rename_i i a c p q
  unfold findAt
  cases hb:Nat.beq p q with
  | true => have e:=Nat.eq_of_beq_eq_true hb; have:=h.ge; omega
  | false => simp [ih (by omega)]
 | loop h ih =>
  rename_i a c p q
  unfold findAt
  cases hb:Nat.beq p q with
  | true => have e:=Nat.eq_of_beq_eq_true hb; have:=h.ge; omega
  | false => simp [ih (by omega)]
section
variable [Kp] [Fx]
def OutRel (w:World) (a:Act) (N:Nat) (own:Nat→List Nat):Out→Exit→Prop
 | .norm s,e => e = .normal∧RelA w (get s) a N own
 | .exit i s,e => e = .exit i∧RelA w (get s) a N own
 | .ret s,e => e = .ret∧RelA w (get s) a N own
theorem OutRel.keep (ks:St) {w:World} {a:Act} {N:Nat} {own:Nat→List Nat} {o:Out} {e:Exit} (h:OutRel w a N own o e):∃ own',OutRel w a N own' (keepOut ks o) e∧Fewer own own':=by
 cases o with
 | norm s => obtain ⟨own',h1,h2⟩:=RelA.keep ks s h.2; exact ⟨own',⟨h.1,h1⟩,h2⟩
 | exit i s => obtain ⟨own',h1,h2⟩:=RelA.keep ks s h.2; exact ⟨own',⟨h.1,h1⟩,h2⟩
 | ret s => obtain ⟨own',h1,h2⟩:=RelA.keep ks s h.2; exact ⟨own',⟨h.1,h1⟩,h2⟩
end
def CutOk (P:Program) (C:Ctx) (N:Nat) (c:Code) (Λ:Cut):Prop :=
 ∀ [Kp] [Fx] (_:CN C N) (s:St) (β:Type) (κ:Out→Option β) (r:β) (a:Act) (w:World) (own own₀:Nat→List Nat) (w₀:World) (Qx:Exit→Act→World→Prop),Λ s β κ = some r→RelA w (get s) a N own→Later w₀ own₀ w own →
  (∀ o e a' w' own',κ o = some r→OutRel w' a' N own' o e→Later w₀ own₀ w' own'→Qx e a' w')→c.wp P Qx a w
section
variable {P:Program} {Q:FuncId→List SV→Res→Prop} {C:Ctx} {Φ:Oracle} {N:Nat} {cuts:List (Nat×Cut)} {root:Code}
theorem run_sound (hm:P.follows .mixedOrders = true) (hP:C.P = P) (hQ:∀ f vs res,Q f vs res→Snd P f vs res) (hΦ:OracleOk Φ Q)
  (hcuts:∀ q Λ,cutAt cuts q = some Λ→∀ c,At root 1 c q→CutOk P C N c Λ):∀ (c:Code) (p:Nat),At root 1 c p→CutOk P C N c fun s β κ => run C Φ cuts c p s β κ:=by
 intro c
 induction c with
 | skip =>
  intro p _ _ _ hN s β κ r a w own own₀ w₀ Qx h hR hL hend
  exact wp_skip (hend _ _ _ _ _ h ⟨rfl,hR⟩ hL)
 | label l =>
  intro p _ _ _ hN s β κ r a w own own₀ w₀ Qx h hR hL hend
  exact wp_label (hend _ _ _ _ _ h ⟨rfl,hR⟩ hL)
 | ret =>
  intro p _ _ _ hN s β κ r a w own own₀ w₀ Qx h hR hL hend
  exact wp_ret (hend _ _ _ _ _ h ⟨rfl,hR⟩ hL)
 | exit i =>
  intro p _ _ _ hN s β κ r a w own own₀ w₀ Qx h hR hL hend
  exact wp_exit (hend _ _ _ _ _ h ⟨rfl,hR⟩ hL)
 | region id ops draw =>
  intro p _ _ _ hN s β κ r a w own own₀ w₀ Qx h hR hL hend
  refine regR_sound hm hP hN hQ hΦ h hR fun s' a' w' own' h' hR' hL' => ?_
  obtain ⟨own'',h1,h2⟩:=hR'.softL (dropsOf C.drops id)
  exact hend _ _ _ _ _ h' ⟨rfl,h1⟩ (hL.trans (hL'.fewer h2))
 | seq x y ihx ihy =>
  intro p hp _ _ hN s β κ r a w own own₀ w₀ Qx h hR hL hend
  refine wp_seq ?_
  have second:∀ (s:St) (a:Act) (w:World) own,(match cutAt cuts (2 * p + 1) with | some Λ => Λ s β κ | none => run C Φ cuts y (2 * p + 1) s β κ) = some r→RelA w (get s) a N own→Later w₀ own₀ w own→y.wp P Qx a w:=by
   intro s a w own h hR hL
   cases hc:cutAt cuts (2 * p + 1) with
   | none => rw [hc] at h; exact ihy (2 * p + 1) (hp.trans (.seqR (.refl _ _))) hN s β κ r a w own own₀ w₀ Qx h hR hL hend
   | some Λ => rw [hc] at h; exact hcuts _ Λ hc y (hp.trans (.seqR (.refl _ _))) hN s β κ r a w own own₀ w₀ Qx h hR hL hend
  have first:x.wp P (Exit.then (y.wp P Qx) Qx) a w:=by
   have next:∀ (κ':Out→Option β),(∀ o,κ' o = (match o with | .norm s => (match cutAt cuts (2 * p + 1) with | some Λ => Λ s β κ | none => run C Φ cuts y (2 * p + 1) s β κ) | o => κ o)) →
     ∀ o e a' w' own',κ' o = some r→OutRel w' a' N own' o e→Later w₀ own₀ w' own'→Exit.then (y.wp P Qx) Qx e a' w':=by
    intro κ' hκ' o e a' w' own' hk hO hL'
    rw [hκ'] at hk
    cases o with
    | norm s => obtain ⟨rfl,hO⟩:=hO; exact second s a' w' own' hk hO hL'
    | exit i s => have:=hend _ _ _ _ _ hk hO hL'; obtain ⟨rfl,_⟩:=hO; exact this
    | ret s => have:=hend _ _ _ _ _ hk hO hL'; obtain ⟨rfl,_⟩:=hO; exact this
   have h:(match cutAt cuts (2 * p) with
    | some Λ => Λ s β (fun o => match o with | .norm s => (match cutAt cuts (2 * p + 1) with | some Λ => Λ s β κ | none => run C Φ cuts y (2 * p + 1) s β κ) | o => κ o)
    | none => run C Φ cuts x (2 * p) s β (fun o => match o with | .norm s => (match cutAt cuts (2 * p + 1) with | some Λ => Λ s β κ | none => run C Φ cuts y (2 * p + 1) s β κ) | o => κ o)) = some r:=h
   cases hc:cutAt cuts (2 * p) with
   | none => rw [hc] at h; exact ihx (2 * p) (hp.trans (.seqL (.refl _ _))) hN s β _ r a w own own₀ w₀ _ h hR hL (next _ fun o => rfl)
   | some Λ => rw [hc] at h; exact hcuts _ Λ hc x (hp.trans (.seqL (.refl _ _))) hN s β _ r a w own own₀ w₀ _ h hR hL (next _ fun o => rfl)
  exact first
 | cond x y z ihy ihz =>
  intro p hp _ _ hN s β κ r a w own own₀ w₀ Qx h hR hL hend
  have h:((selB Φ s x).bind fun t =>
   bif t then (match cutAt cuts (2 * p) with | some Λ => Λ s β κ | none => run C Φ cuts y (2 * p) s β κ)
   else (match cutAt cuts (2 * p + 1) with | some Λ => Λ s β κ | none => run C Φ cuts z (2 * p + 1) s β κ)) = some r:=h
  obtain ⟨t,h1,h⟩:=Option.bind_eq_some_iff.1 h
  have hsel:a.eval x = .bool t:=by
   unfold selB at h1
   obtain ⟨v,h2,h3⟩:=RD.comes_of_run hΦ _ _ _ _ h1
   have he:=evR_sound hR.rel h2
   cases v <;> first | (cases h3; done) | skip
   cases h3
   exact he.bool
  refine wp_cond hsel ?_
  cases t with
  | true =>
   rw [cond_true] at h
   simp only [if_true]
   cases hc:cutAt cuts (2 * p) with
   | none => rw [hc] at h; exact ihy (2 * p) (hp.trans (.condT (.refl _ _))) hN s β _ r a w own own₀ w₀ Qx h hR hL hend
   | some Λ => rw [hc] at h; exact hcuts _ Λ hc y (hp.trans (.condT (.refl _ _))) hN s β _ r a w own own₀ w₀ Qx h hR hL hend
  | false =>
   rw [cond_false] at h
   simp only [Bool.false_eq_true,if_false]
   cases hc:cutAt cuts (2 * p + 1) with
   | none => rw [hc] at h; exact ihz (2 * p + 1) (hp.trans (.condF (.refl _ _))) hN s β _ r a w own own₀ w₀ Qx h hR hL hend
   | some Λ => rw [hc] at h; exact hcuts _ Λ hc z (hp.trans (.condF (.refl _ _))) hN s β _ r a w own own₀ w₀ Qx h hR hL hend
 | block i y ih =>
  intro p hp _ _ hN s β κ r a w own own₀ w₀ Qx h hR hL hend
  refine wp_block ?_
  have h:(match cutAt cuts (2 * p) with
   | some Λ => Λ s β (fun o => κ (ofBlock i o))
   | none => run C Φ cuts y (2 * p) s β (fun o => κ (ofBlock i o))) = some r:=h
  have kept:∀ o e a' w' own',κ (ofBlock i o) = some r→OutRel w' a' N own' o e→Later w₀ own₀ w' own'→Exit.inBlock i Qx e a' w':=by
   intro o e a' w' own' hk h1 hL''
   cases o with
   | norm s' => have:=hend _ _ _ _ _ hk h1 hL''; obtain ⟨rfl,_⟩:=h1; exact this
   | ret s' => have:=hend _ _ _ _ _ hk h1 hL''; obtain ⟨rfl,_⟩:=h1; exact this
   | exit j s' =>
    obtain ⟨rfl,h1⟩:=h1
    simp only [ofBlock] at hk
    simp only [Exit.inBlock]
    by_cases e:j = i
    ·subst e
     rw [Nat.beq_refl,cond_true] at hk
     rw [if_pos rfl]
     exact hend _ _ _ _ _ hk ⟨rfl,h1⟩ hL''
    ·rw [beq_false e,cond_false] at hk
     rw [if_neg e]
     exact hend _ _ _ _ _ hk ⟨rfl,h1⟩ hL''
  cases hc:cutAt cuts (2 * p) with
  | none => rw [hc] at h; exact ih (2 * p) (hp.trans (.block (.refl _ _))) hN s β _ r a w own own₀ w₀ _ h hR hL kept
  | some Λ => rw [hc] at h; exact hcuts _ Λ hc y (hp.trans (.block (.refl _ _))) hN s β _ r a w own own₀ w₀ _ h hR hL kept
 | _ => intro p hp _ _ hN s β κ r a w own own₀ w₀ Qx h hR hL hend; cases h
theorem no_some {α:Type} {o:Option α} {x:α} (h:o = some x) (e:o = none):False:=by rw [e] at h; cases h
theorem beq_and {i j:Nat} {b:Bool} (h:(Nat.beq i j && b) = true):i = j∧b = true:=by
 rw [Bool.and_eq_true] at h
 exact ⟨Nat.eq_of_beq_eq_true h.1,h.2⟩
theorem dif_some {α:Type} {p:Prop} [Decidable p] {f:p→α} {x:α} (h:(if h:p then some (f h) else none) = some x):∃ hp:p,f hp = x:=by
 split at h
 ·rename_i hp; cases h; exact ⟨hp,rfl⟩
 ·cases h
mutual
theorem Shp.of_to:∀ (s:Shp) (v:SV) (x:s.den),s.of v = some x→s.to x = v
 | .junk,v,x,h => by cases v <;> first | rfl | exact (no_some h rfl).elim
 | .nsl,v,x,h => by cases v <;> first | rfl | exact (no_some h rfl).elim
 | .int k,v,x,h => by
  cases v with
  | int k' n =>
   have h2:(if k = k' then some n else none) = some x:=h
   by_cases e:k = k'
   ·rw [if_pos e] at h2
    have h3:n = x:=Option.some.inj h2
    subst e; subst h3; rfl
   ·rw [if_neg e] at h2; exact (no_some h2 rfl).elim
  | _ => exact (no_some h rfl).elim
 | .bool,v,x,h => by
  cases v with
  | bool b => have h:some b = some x:=h; cases h; rfl
  | _ => exact (no_some h rfl).elim
 | .str,v,x,h => by
  cases v with
  | str b => have h:some b = some x:=h; cases h; rfl
  | _ => exact (no_some h rfl).elim
 | .sl r,v,x,h => by
  cases v with
  | sl r' xs =>
   obtain ⟨e,h⟩:=dif_some (f:=fun h:r' = r => (h ▸ xs:List r.den)) h
   subst e; subst h; rfl
  | _ => exact (no_some h rfl).elim
 | .ow r,v,x,h => by
  cases v with
  | ow r' xs =>
   obtain ⟨e,h⟩:=dif_some (f:=fun h:r' = r => (h ▸ xs:List r.den)) h
   subst e; subst h; rfl
  | _ => exact (no_some h rfl).elim
 | .agg l,v,x,h => by
  cases v with
  | agg cs => have h:l.of cs = some x:=h; show SV.agg (l.to x) = _; rw [Shps.of_to l _ x h]
  | _ => exact (no_some h rfl).elim
 | .box l,v,x,h => by
  cases v with
  | box cs => have h:l.of cs = some x:=h; show SV.box (l.to x) = _; rw [Shps.of_to l _ x h]
  | _ => exact (no_some h rfl).elim
 | .tup l,v,x,h => by
  cases v with
  | tup cs => have h:l.of cs = some x:=h; show SV.tup (l.to x) = _; rw [Shps.of_to l _ x h]
  | _ => exact (no_some h rfl).elim
 | .rsl a c,v,x,h => by
  cases v with
  | rsl a' c' =>
   obtain ⟨h1,h2⟩:=bif_some (o:=some ()) h
   obtain ⟨rfl,h3⟩:=beq_and h1
   have e:c = c':=@of_decide_eq_true _ (oeq c c') h3
   subst e; rfl
  | _ => exact (no_some h rfl).elim
 | .rsb a c,v,x,h => by
  cases v with
  | rsb a' c' lo n =>
   obtain ⟨h1,h2⟩:=bif_some (o:=some (lo,n)) h
   obtain ⟨rfl,h3⟩:=beq_and h1
   have e:c = c':=@of_decide_eq_true _ (oeq c c') h3
   subst e; cases h2; rfl
  | _ => exact (no_some h rfl).elim
 | .rpc a c,v,x,h => by
  cases v with
  | rpc a' c' =>
   obtain ⟨h1,h2⟩:=bif_some (o:=some ()) h
   obtain ⟨rfl,h3⟩:=beq_and h1
   have e:=Nat.eq_of_beq_eq_true h3
   subst e; rfl
  | _ => exact (no_some h rfl).elim
 | .rpe a c j,v,x,h => by
  cases v with
  | rpe a' c' i j' =>
   obtain ⟨h1,h2⟩:=bif_some (o:=some i) h
   obtain ⟨rfl,h3⟩:=beq_and h1
   rw [Bool.and_eq_true] at h3
   have e:c = c':=@of_decide_eq_true _ (oeq c c') h3.1
   have e2:=Nat.eq_of_beq_eq_true h3.2
   subst e; subst e2; cases h2; rfl
  | _ => exact (no_some h rfl).elim
 | .ipt r off,v,x,h => by
  cases v with
  | ipt r' y off' =>
   have h:(bif Nat.beq off off' then (if h:r' = r then some (h ▸ y:r.den) else none) else none) = some x:=h
   obtain ⟨h1,h2⟩:=bif_some h
   have e1:=Nat.eq_of_beq_eq_true h1
   subst e1
   obtain ⟨e,h⟩:=dif_some (f:=fun h:r' = r => (h ▸ y:r.den)) h2
   subst e; subst h; rfl
  | _ => exact (no_some h rfl).elim
 | .ro s,v,x,h => by
  cases v with
  | ro c => have h:s.of c = some x:=h; show SV.ro (s.to x) = _; rw [Shp.of_to s _ x h]
  | _ => exact (no_some h rfl).elim
 | .ln,v,x,h => by
  cases v with
  | ln n => cases h; rfl
  | _ => exact (no_some h rfl).elim
 | .bo r,v,x,h => by
  cases v with
  | bo r' xs =>
   obtain ⟨e,h⟩:=dif_some (f:=fun h:r' = r => (h ▸ xs:List r.den)) h
   subst e; subst h; rfl
  | _ => exact (no_some h rfl).elim
theorem Shps.of_to:∀ (l:Shps) (vs:List SV) (x:l.den),l.of vs = some x→l.to x = vs
 | .nil,vs,x,h => by cases vs with | nil => rfl | cons => exact (no_some h rfl).elim
 | .cons s l,vs,x,h => by
  cases vs with
  | nil => exact (no_some h rfl).elim
  | cons v vs =>
   have h:((s.of v).bind fun a => (l.of vs).bind fun b => some (a,b)) = some x:=h
   obtain ⟨a,h1,h⟩:=Option.bind_eq_some_iff.1 h
   obtain ⟨b,h2,h⟩:=Option.bind_eq_some_iff.1 h
   cases h
   show s.to a :: l.to b = _
   rw [Shp.of_to s v a h1,Shps.of_to l vs b h2]
end
theorem Shps.ofSt_st:∀ (l:Shps) (ids:List Nat) (t:St) (x:l.den),l.ofSt ids t = some x→l.st ids x = t
 | .nil,ids,t,x,h => by
  cases ids <;> cases t <;> simp [Shps.ofSt] at h <;> rfl
 | .cons s l,ids,t,x,h => by
  cases ids with
  | nil => simp [Shps.ofSt] at h
  | cons i ids =>
   cases t with
   | nil => simp [Shps.ofSt] at h
   | cons q t =>
    obtain ⟨j,v⟩:=q
    simp only [Shps.ofSt] at h
    cases hb:Nat.beq i j with
    | false => rw [hb] at h; cases h
    | true =>
     rw [hb] at h
     have e:=Nat.eq_of_beq_eq_true hb
     subst e
     obtain ⟨a,h1,h⟩:=Option.bind_eq_some_iff.1 h
     obtain ⟨b,h2,h⟩:=Option.bind_eq_some_iff.1 h
     cases h
     simp only [Shps.st]
     rw [Shp.of_to s v a h1,Shps.ofSt_st l ids t b h2]
end
def memN:List Nat→Nat→Bool
 | [],_ => false
 | i :: l,n => Nat.beq i n || memN l n
def othersN (ids:List Nat):St→List Nat
 | [] => []
 | (i,_) :: s => bif memN ids i then othersN ids s else i :: othersN ids s
def easeAt (a:Nat) (c:Option Nat) (s:St):St :=
 match contOf (get s a) c with
 | some (.ow r xs) => stepsA s [.up a (setCont shareCell c),.all (unref a c r xs)]
 | _ => s
def easeCells (a:Nat):Nat→Shps→St→St
 | _,.nil,s => s
 | j,.cons h l,s => match h with
  | .sl _ => easeCells a (j + 1) l (easeAt a (some j) s)
  | _ => easeCells a (j + 1) l s
def easeAgg:Shps→List SV→Bool
 | .cons h l,c :: cs => (match h with | .sl _ => isOw c | _ => false) || easeAgg l cs
 | _,_ => false
def ease1 (h:Shp) (a:Nat) (s:St):St :=
 match h with
 | .sl _ => easeAt a none s
 | .box l => easeCells a 0 l s
 | .agg l => match get s a with
  | .agg cs => bif easeAgg l cs then stepsA s [.up a shareAgg] else s
  | _ => s
 | _ => s
def ease:Shps→List Nat→St→St
 | .cons h l,i :: is,s => ease l is (ease1 h i s)
 | _,_,s => s
def dec (l:Shps) (ids:List Nat) (s:St):Option l.den:=l.ofSt ids (ease l ids (dropL s (othersN ids s)))
inductive Way where
 | norm (l:Shps) (ids:List Nat)
 | exit (i:Nat) (l:Shps) (ids:List Nat)
 | ret (l:Shps) (ids:List Nat)
def Way.den:Way→Type
 | .norm l _ => l.den
 | .exit _ l _ => l.den
 | .ret l _ => l.den
def Way.out:(y:Way)→y.den→Out
 | .norm l ids,x => .norm (l.st ids x)
 | .exit i l ids,x => .exit i (l.st ids x)
 | .ret l ids,x => .ret (l.st ids x)
def Way.of:(y:Way)→Out→Option y.den
 | .norm l ids,.norm s => dec l ids s
 | .exit i l ids,.exit j s => bif Nat.beq i j then dec l ids s else none
 | .ret l ids,.ret s => dec l ids s
 | _,_ => none
def Ways:List Way→Type
 | [] => Empty
 | [y] => y.den
 | y :: z :: l => y.den ⊕ Ways (z :: l)
def Ways.out:(l:List Way)→Ways l→Out
 | [],x => x.elim
 | [y],x => y.out x
 | y :: _ :: _,.inl x => y.out x
 | _ :: z :: l,.inr x => Ways.out (z :: l) x
def sumElim {σ τ α:Type} (x:σ ⊕ τ) (f:σ→α) (g:τ→α):α:=match x with | .inl a => f a | .inr b => g b
def Ways.cases {α:Type}:(l:List Way)→Ways l→(Out→α)→α
 | [],x,_ => x.elim
 | [y],x,κ => κ (y.out x)
 | y :: z :: l,x,κ => sumElim x (fun a => κ (y.out a)) fun b => Ways.cases (z :: l) b κ
theorem Ways.cases_eq {α:Type}:∀ (l:List Way) (x:Ways l) (κ:Out→α),Ways.cases l x κ = κ (Ways.out l x)
 | [],x,_ => x.elim
 | [y],x,κ => rfl
 | y :: z :: l,.inl a,κ => rfl
 | y :: z :: l,.inr b,κ => Ways.cases_eq (z :: l) b κ
def Ways.of:(l:List Way)→Out→Option (Ways l)
 | [],_ => none
 | [y],o => y.of o
 | y :: z :: l,o => match y.of o with
  | some x => some (.inl x)
  | none => (Ways.of (z :: l) o).map .inr
section
variable [Kp] [Fx] {w:World} {a:Act} {N:Nat} {own:Nat→List Nat}
theorem RelA.easeAt {s:St} (h:RelA w (get s) a N own) (i:Nat) (c:Option Nat):∃ own',RelA w (get (easeAt i c s)) a N own'∧Fewer own own':=by
 unfold V.easeAt
 split
 ·next r xs e =>
  have hc:(freezeR i c).Comes (fun _ _ _ => True) (get s) ((),[.up i (setCont shareCell c),.all (unref i c r xs)]):=by
   simp only [freezeR,contR,RD.bind,RD.Comes,e]
  obtain ⟨own',f1,f2,f3,_⟩:=freeze_sound h.rel hc
  have hj:∀ f,Step.all f∈[Step.up i (setCont shareCell c),.all (unref i c r xs)]→f .junk = .junk:=by
   intro f hf
   simp at hf
   subst hf; rfl
  refine ⟨own',⟨h.size,h.defers,by rw [get_steps _ _ hj]; exact f1,fun k hk => ?_,h.fix⟩,f2⟩
  rw [get_steps _ _ hj]
  exact f3 k (h.out k hk)
 ·exact ⟨own,h,Fewer.refl own⟩
theorem RelA.easeCells (i:Nat):∀ (l:Shps) (j:Nat) {s:St} {own:Nat→List Nat},RelA w (get s) a N own→∃ own',RelA w (get (easeCells i j l s)) a N own'∧Fewer own own'
 | .nil,_,s,own,h => ⟨own,h,Fewer.refl own⟩
 | .cons x l,j,s,own,h => by
  have other:∃ own',RelA w (get (V.easeCells i (j + 1) l s)) a N own'∧Fewer own own':=RelA.easeCells i l (j + 1) h
  cases x with
  | sl r =>
   obtain ⟨o1,h1,h2⟩:=h.easeAt i (some j)
   obtain ⟨o2,h3,h4⟩:=RelA.easeCells i l (j + 1) h1
   exact ⟨o2,h3,h2.trans h4⟩
  | _ => exact other
theorem RelA.ease1 {s:St} (h:RelA w (get s) a N own) (x:Shp) (i:Nat):∃ own',RelA w (get (ease1 x i s)) a N own'∧Fewer own own':=by
 have same:∃ own',RelA w (get s) a N own'∧Fewer own own':=⟨own,h,Fewer.refl own⟩
 cases x with
 | sl r => exact h.easeAt i none
 | box l => exact RelA.easeCells i l 0 h
 | agg l =>
  unfold V.ease1
  simp only
  split
  ·next cs e =>
   cases easeAgg l cs with
   | false => exact same
   | true =>
    rw [cond_true]
    obtain ⟨own',f1,f2,_⟩:=h.rel.share i
    have hj:∀ f,Step.all f∈[Step.up i shareAgg]→f .junk = .junk:=by intro f hf; simp at hf
    refine ⟨own',⟨h.size,h.defers,by rw [get_steps _ _ hj]; exact f1,fun k hk => ?_,h.fix⟩,f2⟩
    rw [get_steps _ _ hj]
    have hki:k ≠ i:=by rintro rfl; rw [h.out k hk] at e; cases e
    simp only [stepsF,stepF,beq_false hki,cond_false]
    exact h.out k hk
  ·exact same
 | _ => exact same
theorem RelA.ease:∀ (l:Shps) (ids:List Nat) {s:St} {own:Nat→List Nat},RelA w (get s) a N own→∃ own',RelA w (get (ease l ids s)) a N own'∧Fewer own own'
 | .nil,ids,s,own,h => ⟨own,by cases ids <;> exact h,Fewer.refl own⟩
 | .cons x l,[],s,own,h => ⟨own,h,Fewer.refl own⟩
 | .cons x l,i :: is,s,own,h => by
  obtain ⟨o1,h1,h2⟩:=h.ease1 x i
  obtain ⟨o2,h3,h4⟩:=RelA.ease l is h1
  exact ⟨o2,h3,h2.trans h4⟩
theorem dec_rel {l:Shps} {ids:List Nat} {s:St} {x:l.den} (h:dec l ids s = some x) (hR:RelA w (get s) a N own):∃ own',RelA w (get (l.st ids x)) a N own'∧Fewer own own':=by
 obtain ⟨o1,h1,h2⟩:=hR.dropL (othersN ids s)
 obtain ⟨own',h3,h4⟩:=h1.ease l ids
 refine ⟨own',?_,h2.trans h4⟩
 rw [Shps.ofSt_st l ids _ x h]
 exact h3
theorem Way.rel {y:Way} {o:Out} {x:y.den} (h:y.of o = some x) {e:Exit} (hR:OutRel w a N own o e):∃ own',OutRel w a N own' (y.out x) e∧Fewer own own':=by
 cases y with
 | norm l ids =>
  cases o with
  | norm s =>
   have h:dec l ids s = some x:=h
   obtain ⟨own',h1,h2⟩:=dec_rel h hR.2
   exact ⟨own',⟨hR.1,h1⟩,h2⟩
  | exit i s => exact (no_some h rfl).elim
  | ret s => exact (no_some h rfl).elim
 | exit i l ids =>
  cases o with
  | norm s => exact (no_some h rfl).elim
  | ret s => exact (no_some h rfl).elim
  | exit j s =>
   have h:(bif Nat.beq i j then dec l ids s else none) = some x:=h
   obtain ⟨h1,hd⟩:=bif_some h
   have e:=Nat.eq_of_beq_eq_true h1
   subst e
   obtain ⟨own',h1,h2⟩:=dec_rel hd hR.2
   exact ⟨own',⟨hR.1,h1⟩,h2⟩
 | ret l ids =>
  cases o with
  | norm s => exact (no_some h rfl).elim
  | exit i s => exact (no_some h rfl).elim
  | ret s =>
   have h:dec l ids s = some x:=h
   obtain ⟨own',h1,h2⟩:=dec_rel h hR.2
   exact ⟨own',⟨hR.1,h1⟩,h2⟩
theorem Ways.rel:∀ {l:List Way} {o:Out} {x:Ways l},Ways.of l o = some x→∀ {e:Exit},OutRel w a N own o e→∃ own',OutRel w a N own' (Ways.out l x) e∧Fewer own own'
 | [],o,x,h,e,hR => by cases h
 | [y],o,x,h,e,hR => Way.rel h hR
 | y :: z :: l,o,x,h,e,hR => by
  simp only [Ways.of] at h
  cases hy:y.of o with
  | some x' => rw [hy] at h; cases h; exact Way.rel hy hR
  | none =>
   rw [hy] at h
   obtain ⟨x',h1,h2⟩:=Option.map_eq_some_iff.1 h
   subst h2
   exact Ways.rel h1 hR
end
def cutOf (l:Shps) (ids:List Nat) (ws:List Way) (f:l.den→Option (Ways ws)):Cut:=fun s _ κ => (dec l ids s).bind fun x => (f x).bind fun y => Ways.cases ws y κ
noncomputable def loopOf (l:Shps) (ids:List Nat) (ws:List Way) (f:l.den→Option (l.den ⊕ Ways ws)):Cut:=cutOf l ids ws fun x => loopL f x
def roundOf (l:Shps) (ids:List Nat) (ws:List Way):Out→Option (l.den ⊕ Ways ws)
 | .norm s => (dec l ids s).map .inl
 | o => (Ways.of ws o).map .inr
section
variable {P:Program} {Q:FuncId→List SV→Res→Prop} {C:Ctx} {Φ:Oracle} {N:Nat} {cuts:List (Nat×Cut)} {root:Code}
theorem cut_sound (hm:P.follows .mixedOrders = true) (hP:C.P = P) (hQ:∀ f vs res,Q f vs res→Snd P f vs res) (hΦ:OracleOk Φ Q)
  (hcuts:∀ q Λ,cutAt cuts q = some Λ→∀ c,At root 1 c q→CutOk P C N c Λ) {c:Code} {p:Nat} (hp:At root 1 c p) (l:Shps) (ids:List Nat) (ws:List Way) (f:l.den→Option (Ways ws))
  (hf:∀ x,f x = run C Φ cuts c p (l.st ids x) (Ways ws) (Ways.of ws)):CutOk P C N c (cutOf l ids ws f):=by
 intro _ _ hN s β κ r a w own own₀ w₀ Qx h hR hL hend
 obtain ⟨x,h1,h⟩:=Option.bind_eq_some_iff.1 h
 obtain ⟨y,h2,h⟩:=Option.bind_eq_some_iff.1 h
 rw [Ways.cases_eq] at h
 obtain ⟨own',hR',hF⟩:=dec_rel h1 hR
 rw [hf] at h2
 refine run_sound hm hP hQ hΦ hcuts c p hp hN _ _ _ _ a w own' own₀ w₀ Qx h2 hR' (hL.fewer hF) fun o e a' w' own'' hk hO hL' => ?_
 obtain ⟨own₃,h3,h4⟩:=Ways.rel hk hO
 exact hend _ _ _ _ _ h h3 (hL'.fewer h4)
theorem least {p:Nat→Prop} (h:∃ n,p n):∃ n,p n∧∀ m,p m→n≤m:=by
 classical
 obtain ⟨n,hn⟩:=h
 induction n using Nat.strongRecOn with
 | _ n ih =>
  by_cases hm:∃ m,m < n∧p m
  ·obtain ⟨m,h1,h2⟩:=hm
   exact ih m h1 h2
  ·exact ⟨n,hn,fun m hm' => Nat.le_of_not_lt fun hlt => hm ⟨m,hlt,hm'⟩⟩
theorem loopL_runs {σ ρ:Type} {f:σ→Option (σ ⊕ ρ)} {s:σ} {r:ρ} (h:loopL f s = some r):∃ n,runs f n s = some r:=by
 unfold loopL at h
 split at h
 ·rename_i hh
  obtain ⟨n,hn⟩:=hh.choose_spec
  cases h
  exact ⟨n,hn⟩
 ·cases h
theorem loop_sound (hm:P.follows .mixedOrders = true) (hP:C.P = P) (hQ:∀ f vs res,Q f vs res→Snd P f vs res) (hΦ:OracleOk Φ Q)
  (hcuts:∀ q Λ,cutAt cuts q = some Λ→∀ c,At root 1 c q→CutOk P C N c Λ) {c:Code} {p:Nat} (hp:At root 1 (.loop c) p) (l:Shps) (ids:List Nat) (ws:List Way) (f:l.den→Option (l.den ⊕ Ways ws))
  (hf:∀ x,f x = run C Φ cuts c (2 * p) (l.st ids x) (l.den ⊕ Ways ws) (roundOf l ids ws)):CutOk P C N (.loop c) (loopOf l ids ws f):=by
 classical
 intro _ _ hN s β κ r a w own own₀ w₀ Qx h hR hL hend
 obtain ⟨x,h1,h⟩:=Option.bind_eq_some_iff.1 h
 obtain ⟨y,h2,h⟩:=Option.bind_eq_some_iff.1 h
 rw [Ways.cases_eq] at h
 obtain ⟨n,hn⟩:=loopL_runs h2
 obtain ⟨own',hR',hF⟩:=dec_rel h1 hR
 let I:Nat→Act→World→Prop:=fun n a w => ∃ x own,RelA w (get (l.st ids x)) a N own∧Later w₀ own₀ w own∧runs f n x = some y
 let μ:Act→World→Nat:=fun a w => if h:∃ n,I n a w then (least h).choose else 0
 refine wp_loop (I:=fun a w => ∃ n,I n a w) (μ:=μ) ⟨n,x,own',hR',hL.fewer hF,hn⟩ ?_
 intro a w hI
 have hμ:μ a w = (least hI).choose:=dif_pos hI
 obtain ⟨x,own,hR,hL,hn⟩:=(least hI).choose_spec.1
 rw [← hμ] at hn
 generalize μ a w = k at hn
 cases k with
 | zero => cases hn
 | succ k =>
  simp only [runs] at hn
  cases hfx:f x with
  | none => rw [hfx] at hn; cases hn
  | some q =>
   rw [hfx] at hn
   rw [hf] at hfx
   refine run_sound hm hP hQ hΦ hcuts c (2 * p) (hp.trans (.loop (.refl _ _))) hN _ _ _ _ a w own own₀ w₀ _ hfx hR hL fun o e a' w' own'' hk hO hL' => ?_
   have way:∀ {q'},(Ways.of ws o).map Sum.inr = some q→q = .inr q'→Qx e a' w':=by
    intro q' h1 h2
    obtain ⟨y',h3,h4⟩:=Option.map_eq_some_iff.1 h1
    rw [← h4] at hn
    simp only [Option.some.injEq] at hn
    subst hn
    obtain ⟨own₃,h5,h6⟩:=Ways.rel h3 hO
    exact hend _ _ _ _ _ h h5 (hL'.fewer h6)
   cases o with
   | norm s' =>
    simp only [roundOf] at hk
    obtain ⟨x',h3,rfl⟩:=Option.map_eq_some_iff.1 hk
    obtain ⟨rfl,hO⟩:=hO
    obtain ⟨own₃,h5,h6⟩:=dec_rel h3 hO
    have hI':∃ n,I n a' w':=⟨k,x',own₃,h5,hL'.fewer h6,hn⟩
    refine ⟨hI',?_⟩
    have:μ a' w' = (least hI').choose:=dif_pos hI'
    rw [this]
    exact Nat.lt_succ_of_le ((least hI').choose_spec.2 k ⟨x',own₃,h5,hL'.fewer h6,hn⟩)
   | exit i s' =>
    simp only [roundOf] at hk
    obtain ⟨y',h3,h4⟩:=Option.map_eq_some_iff.1 hk
    have:=way hk h4.symm
    obtain ⟨rfl,_⟩:=hO
    exact this
   | ret s' =>
    simp only [roundOf] at hk
    obtain ⟨y',h3,h4⟩:=Option.map_eq_some_iff.1 hk
    have:=way hk h4.symm
    obtain ⟨rfl,_⟩:=hO
    exact this
end
end Go.V

namespace Go.V
open Go
section
variable [Kp] {w:World} {σ:Nat→SV} {vs:Nat→Value} {own:Nat→List Nat}
theorem gather (h:RelF w σ vs own) (kb:Nat→Bool) (hB:∀ i,kb i = true→isBox (σ i) = true) (ms:List Nat) (hmB:∀ m∈ms,kb m = false) (t:Nat) (htB:kb t = false) (X:SV) (val:Value) (o':List Nat)
  (hsub:∀ b∈o',∃ m∈ms,b∈own m) (hnd:o'.Nodup) (vs':Nat→Value) (hvs:∀ i,kb i = true→vs' i = vs i) (hvt:vs' t = val)
  (hX:∀ S':Nat→Prop,(∀ b,Sh w own b→S' b)→(∀ m∈ms,∀ b∈own m,b ∉ o'→S' b)→∀ root,SlotRel w S' root X val o') :
  RelF w (fun i => if i = t then X else if kb i = true then σ i else .junk) vs' (fun i => if i = t then o' else if kb i = true then own i else []):=by
 refine RelF.upd (I:=fun i => kb i = false) (f:=kl fun _ => true) h (Ext.refl _ _) (fun sv hr => kl_off (by rw [hr]; rfl)) ?_ ?_ ?_ ?_ ?_ ?_ ?_
 ·intro k hk
  have hk:kb k = true:=by simpa using hk
  have hkt:k ≠ t:=by rintro rfl; rw [htB] at hk; cases hk
  simp only [hkt,if_false,hk,if_true]
  refine ⟨?_,hvs k hk,trivial⟩
  have:=hB k hk
  cases hσ:σ k <;> rw [hσ] at this <;> first | (cases this; done) | rfl
 ·intro _ sv v hr _
  left
  rw [kl_on (by rw [hr]; rfl)]
  exact cellJunk
 ·intro hs k hk
  by_cases hkt:k = t
  ·subst hkt
   simp only [if_true]
   rw [hvt]
   refine hX _ (fun b hb => (hs b hb).1) (fun m hm b hb hno => ⟨⟨h.lt m b hb,h.univ m b hb⟩,fun i hi => ?_⟩) _
   by_cases hit:i = k
   ·subst hit; simp only [if_true] at hi; exact hno hi
   ·simp only [hit,if_false] at hi
    cases hki:kb i with
    | true =>
     simp only [hki,if_true] at hi
     exact h.apart m i (by rintro rfl; rw [hmB m hm] at hki; cases hki) b hb hi
    | false => simp only [hki,Bool.false_eq_true,if_false] at hi; cases hi
  ·simp only [hkt,if_false,hk,Bool.false_eq_true]
   exact slotJunk
 ·intro k hk b hb
  by_cases hkt:k = t
  ·subst hkt
   simp only [if_true] at hb
   obtain ⟨m,hm,hbm⟩:=hsub b hb
   exact .inl ⟨m,hmB m hm,hbm⟩
  ·simp only [hkt,if_false,hk,Bool.false_eq_true] at hb; cases hb
 ·intro k hk b hb
  by_cases hkt:k = t
  ·subst hkt
   simp only [if_true] at hb
   obtain ⟨m,hm,hbm⟩:=hsub b hb
   exact h.lt m b hbm
  ·simp only [hkt,if_false,hk,Bool.false_eq_true] at hb; cases hb
 ·intro k hk
  by_cases hkt:k = t
  ·subst hkt; simp only [if_true]; exact hnd
  ·simp only [hkt,if_false,hk,Bool.false_eq_true]; simp
 ·intro i k hi hk hik b hb
  by_cases hit:i = t
  ·by_cases hkt:k = t
   ·exact (hik (hit.trans hkt.symm)).elim
   ·simp only [hkt,if_false,hk,Bool.false_eq_true]; simp
  ·simp only [hit,if_false,hi,Bool.false_eq_true] at hb; cases hb
theorem cell_closed {S S':Nat→Prop} (hS:∀ b,S b→S' b) {root:Nat→SV×Value} {c:SV} {v:Value} {o:List Nat} (hc:closed1 c = true) (h:CellRel w S c v o∨(RefRel w root c v∧o = [])):CellRel w S' c v o:=by
 rcases h with h | h
 ·exact h.mono hS (fun _ _ => rfl) fun _ _ => rfl
 ·cases c <;> first | (cases hc; done) | exact h.1.elim
theorem cells_closed {S S':Nat→Prop} (hS:∀ b,S b→S' b) {root:Nat→SV×Value}:∀ {cs:List SV} {ws:List Value} {o:List Nat},cs.all closed1 = true→CellsRel w S root cs ws o→CellsRel w S' noRoot cs ws o
 | [],[],_,_,h => h
 | [],_ :: _,_,_,h => h.elim
 | _ :: _,[],_,_,h => h.elim
 | c :: cs,v :: ws,o,hc,h => by
  obtain ⟨o₁,o₂,rfl,h1,h2⟩:=h
  simp only [List.all_cons,Bool.and_eq_true] at hc
  exact ⟨o₁,o₂,rfl,.inl (cell_closed hS hc.1 h1),cells_closed hS hc.2 h2⟩
theorem part_closed {S S':Nat→Prop} (hS:∀ b,S b→S' b) {root:Nat→SV×Value} {v:SV} {u:Value} {o:List Nat} (hc:closed v = true) (h:SlotRel w S root v u o):PartRel w S' noRoot v u o:=by
 cases v with
 | agg cs => obtain ⟨ws,rfl,h⟩:=h; exact ⟨ws,rfl,cells_closed hS hc h⟩
 | box cs => obtain ⟨b,c,e,o',h1,h2,h3,h4⟩:=h; exact ⟨b,c,e,o',h1,h2,h3,cells_closed hS hc h4⟩
 | tup vs => cases hc
 | ipt r x off => cases hc
 | junk => cases hc
 | nsl => cases hc
 | rsl => cases hc
 | rsb => cases hc
 | rpc => cases hc
 | rpe => cases hc
 | ro => cases hc
 | bo => cases hc
 | ln => cases hc
 | int => exact .inl (cell_closed hS hc h)
 | bool => exact .inl (cell_closed hS hc h)
 | str => exact .inl (cell_closed hS hc h)
 | sl => exact .inl (cell_closed hS hc h)
 | ow => exact .inl (cell_closed hS hc h)
theorem nodup_append_at {o₁ o₂:List Nat} (h:(o₁ ++ o₂).Nodup):o₁.Nodup∧o₂.Nodup∧(∀ b∈o₁,b ∉ o₂):=by
 obtain ⟨h1,h2,h3⟩:=List.nodup_append.1 h
 exact ⟨h1,h2,fun b hb hb2 => h3 b hb b hb2 rfl⟩
theorem cell_keep {S:Nat→Prop} {c:SV} {v:Value} {o:List Nat} (sh:Bool) (hc:closed1 c = true) (h:CellRel w S c v o) :
  ∃ o',o'.Sublist o∧∀ S':Nat→Prop,(∀ b,S b→S' b)→(∀ b∈o,b ∉ o'→S' b)→CellRel w S' (bif sh then shareCell c else c) v o':=by
 cases sh with
 | false => exact ⟨o,List.Sublist.refl _,fun S' hS _ => h.mono hS (fun _ _ => rfl) fun _ _ => rfl⟩
 | true =>
  cases c with
  | ow r xs => exact ⟨[],List.nil_sublist _,fun S' hS hf => ⟨OwRel.share h hS fun _ b hb => hf b hb (by simp),rfl⟩⟩
  | int => exact ⟨o,List.Sublist.refl _,fun S' hS _ => h.mono hS (fun _ _ => rfl) fun _ _ => rfl⟩
  | bool => exact ⟨o,List.Sublist.refl _,fun S' hS _ => h.mono hS (fun _ _ => rfl) fun _ _ => rfl⟩
  | str => exact ⟨o,List.Sublist.refl _,fun S' hS _ => h.mono hS (fun _ _ => rfl) fun _ _ => rfl⟩
  | sl => exact ⟨o,List.Sublist.refl _,fun S' hS _ => h.mono hS (fun _ _ => rfl) fun _ _ => rfl⟩
  | _ => cases hc
theorem cells_keep {S:Nat→Prop} (m:Nat):∀ {cs:List SV} {ws:List Value} {o:List Nat} {j:Nat},cs.all closed1 = true→o.Nodup→CellsRel w S noRoot cs ws o →
  ∃ o',o'.Sublist o∧∀ S':Nat→Prop,(∀ b,S b→S' b)→(∀ b∈o,b ∉ o'→S' b)→CellsRel w S' noRoot (shareC m j cs) ws o'
 | [],[],o,j,_,_,h => ⟨o,List.Sublist.refl _,fun _ _ _ => h⟩
 | [],_ :: _,_,_,_,_,h => h.elim
 | _ :: _,[],_,_,_,_,h => h.elim
 | c :: cs,v :: ws,o,j,hc,hnd,h => by
  obtain ⟨o₁,o₂,rfl,h1,h2⟩:=h
  simp only [List.all_cons,Bool.and_eq_true] at hc
  obtain ⟨n1,n2,n3⟩:=nodup_append_at hnd
  have h1:CellRel w S c v o₁:=cell_closed (fun _ h => h) hc.1 h1
  obtain ⟨p₁,hp1,hs1⟩:=cell_keep (Nat.testBit m j) hc.1 h1
  obtain ⟨p₂,hp2,hs2⟩:=cells_keep m (j:=j + 1) hc.2 n2 h2
  refine ⟨p₁ ++ p₂,hp1.append hp2,fun S' hS hf => ⟨p₁,p₂,rfl,.inl (hs1 S' hS fun b hb hno => hf b (by simp [hb]) ?_),hs2 S' hS fun b hb hno => hf b (by simp [hb]) ?_⟩⟩
  ·rw [List.mem_append]
   rintro (h | h)
   ·exact hno h
   ·exact n3 b hb (hp2.subset h)
  ·rw [List.mem_append]
   rintro (h | h)
   ·exact n3 b (hp1.subset h) hb
   ·exact hno h
theorem part_keep {S:Nat→Prop} (m:Nat) {v:SV} {u:Value} {o:List Nat} (hc:closed v = true) (hnd:o.Nodup) (h:PartRel w S noRoot v u o) :
  ∃ o',o'.Sublist o∧∀ S':Nat→Prop,(∀ b,S b→S' b)→(∀ b∈o,b ∉ o'→S' b)→PartRel w S' noRoot (shareV m v) u o':=by
 have one:∀ c,v = c→closed1 c = true→PartRel w S noRoot c u o = (CellRel w S c u o∨(RefRel w noRoot c u∧o = []))→(∀ S',PartRel w S' noRoot (bif Nat.testBit m 0 then shareCell c else c) u = fun o => (CellRel w S' (bif Nat.testBit m 0 then shareCell c else c) u o∨(RefRel w noRoot (bif Nat.testBit m 0 then shareCell c else c) u∧o = []))) →
   ∃ o',o'.Sublist o∧∀ S':Nat→Prop,(∀ b,S b→S' b)→(∀ b∈o,b ∉ o'→S' b)→PartRel w S' noRoot (bif Nat.testBit m 0 then shareCell c else c) u o':=by
  intro c e hcc h1 h2
  subst e
  rw [h1] at h
  obtain ⟨o',h3,h4⟩:=cell_keep (Nat.testBit m 0) hcc (cell_closed (S':=S) (fun _ h => h) hcc h)
  exact ⟨o',h3,fun S' hS hf => by rw [h2]; exact .inl (h4 S' hS hf)⟩
 cases v with
 | agg cs =>
  obtain ⟨ws,rfl,h⟩:=h
  obtain ⟨o',h1,h2⟩:=cells_keep m (j:=0) hc hnd h
  exact ⟨o',h1,fun S' hS hf => ⟨ws,rfl,h2 S' hS hf⟩⟩
 | box cs =>
  obtain ⟨b,c,e,o₁,rfl,h2,rfl,h4⟩:=h
  obtain ⟨hb,hnd⟩:=List.nodup_cons.1 hnd
  obtain ⟨o',h5,h6⟩:=cells_keep m (j:=0) hc hnd h4
  refine ⟨b :: o',h5.cons₂ b,fun S' hS hf => ⟨b,c,e,o',rfl,h2,rfl,h6 S' hS fun x hx hno => hf x (by simp [hx]) ?_⟩⟩
  rw [List.mem_cons]
  rintro (rfl | h)
  ·exact hb hx
  ·exact hno h
 | int => exact one _ rfl hc rfl fun S' => by cases Nat.testBit m 0 <;> rfl
 | bool => exact one _ rfl hc rfl fun S' => by cases Nat.testBit m 0 <;> rfl
 | str => exact one _ rfl hc rfl fun S' => by cases Nat.testBit m 0 <;> rfl
 | sl => exact one _ rfl hc rfl fun S' => by cases Nat.testBit m 0 <;> rfl
 | ow => exact one _ rfl hc rfl fun S' => by cases Nat.testBit m 0 <;> rfl
 | _ => cases hc
theorem shareC_zero:∀ (cs:List SV) (j:Nat),shareC 0 j cs = cs
 | [],_ => rfl
 | c :: cs,j => by simp [shareC,shareC_zero cs]
theorem shareV_zero (v:SV):shareV 0 v = v:=by
 cases v <;> simp [shareV,shareC_zero]
def tupVal:List Value→Value
 | [v] => v
 | vs => .tuple vs.toArray
def Wait (σ:Nat→SV) (vs:Nat→Value):Nat→List SV→List Value→Prop
 | _,[],[] => True
 | m,u :: us,v :: ws => σ m = u∧vs m = v∧Wait σ vs (m + 1) us ws
 | _,_,_ => False
theorem wait_keep (h:RelF w σ vs own):∀ {us:List SV} {ws:List Value} {m:Nat} (ms:List Nat),Wait σ vs m us ws→us.all closed = true →
  ∃ O:List Nat,O.Nodup∧(∀ b∈O,∃ k,m≤k∧k < m + us.length∧b∈own k)∧∀ S':Nat→Prop,(∀ b,Sh w own b→S' b)→(∀ k,m≤k→k < m + us.length→∀ b∈own k,b ∉ O→S' b)→PartsRel w S' (shareVs ms us) ws O
 | [],[],m,ms,_,_ => ⟨[],by simp,by simp,fun S' _ _ => by cases ms <;> rfl⟩
 | [],_ :: _,m,_,h,_ => h.elim
 | _ :: _,[],m,_,h,_ => h.elim
 | u :: us,v :: ws,m,ms,⟨h1,h2,h3⟩,hc => by
  simp only [List.all_cons,Bool.and_eq_true] at hc
  have hslot:=h.slot m
  rw [h1,h2] at hslot
  have hcons:∃ n ms',shareVs ms (u :: us) = shareV n u :: shareVs ms' us:=by
   cases ms with
   | nil => exact ⟨0,[],by rw [shareV_zero]; cases us <;> rfl⟩
   | cons n ms => exact ⟨n,ms,rfl⟩
  obtain ⟨n,ms',e⟩:=hcons
  obtain ⟨o',p1,p2⟩:=part_keep n hc.1 (h.nodup m) (part_closed (S':=Sh w own) (fun _ hb => hb) hc.1 hslot)
  obtain ⟨O,q1,q2,q3⟩:=wait_keep h ms' h3 hc.2
  refine ⟨o' ++ O,List.nodup_append.2 ⟨(h.nodup m).sublist p1,q1,fun a ha b hb hab => ?_⟩,fun b hb => ?_,fun S' hS hf => ?_⟩
  ·subst hab
   obtain ⟨k,k1,k2,k3⟩:=q2 a hb
   exact h.apart m k (by omega) a (p1.subset ha) k3
  ·rcases List.mem_append.1 hb with hb | hb
   ·exact ⟨m,Nat.le_refl _,by simp,p1.subset hb⟩
   ·obtain ⟨k,k1,k2,k3⟩:=q2 b hb
    exact ⟨k,by omega,by simp; omega,k3⟩
  ·rw [e]
   refine ⟨o',O,rfl,p2 S' hS fun b hb hno => hf m (Nat.le_refl _) (by simp) b hb ?_,q3 S' hS fun k k1 k2 b hb hno => hf k (by omega) (by simp; omega) b hb ?_⟩
   ·rw [List.mem_append]
    rintro (h4 | h4)
    ·exact hno h4
    ·obtain ⟨k,k1,k2,k3⟩:=q2 b h4
     exact h.apart m k (by omega) b hb k3
   ·rw [List.mem_append]
    rintro (h4 | h4)
    ·exact h.apart k m (by omega) b hb (p1.subset h4)
    ·exact hno h4
theorem part_slot_any {S:Nat→Prop} {root:Nat→SV×Value} {v:SV} {u:Value} {o:List Nat} (hc:closed v = true) (h:PartRel w S noRoot v u o):SlotRel w S root v u o:=by
 cases v with
 | agg cs =>
  obtain ⟨ws,rfl,h⟩:=h
  exact ⟨ws,rfl,CellsRel.root (by
   rw [List.any_eq_false]
   intro c hc' hr
   have:=List.all_eq_true.1 hc c hc'
   cases c <;> first | (cases hr; done) | (cases this; done)) h⟩
 | box cs => exact h
 | int => exact .inl (h.resolve_right fun h => h.1)
 | bool => exact .inl (h.resolve_right fun h => h.1)
 | str => exact .inl (h.resolve_right fun h => h.1)
 | sl => exact .inl (h.resolve_right fun h => h.1)
 | ow => exact .inl (h.resolve_right fun h => h.1)
 | _ => cases hc
theorem shareCell_closed {c:SV} (b:Bool) (hc:closed1 c = true):closed1 (bif b then shareCell c else c) = true:=by
 cases b with
 | false => exact hc
 | true => cases c <;> first | exact hc | rfl
theorem shareC_closed (m:Nat):∀ {cs:List SV} {j:Nat},cs.all closed1 = true→(shareC m j cs).all closed1 = true
 | [],_,_ => rfl
 | c :: cs,j,h => by
  simp only [List.all_cons,Bool.and_eq_true,shareC] at h ⊢
  exact ⟨shareCell_closed _ h.1,shareC_closed m h.2⟩
theorem closed_of1 {c:SV} (h:closed1 c = true):closed c = true:=by cases c <;> first | exact h | cases h
theorem closed_shareV {m:Nat} {v:SV} (h:closed v = true):closed (shareV m v) = true:=by
 cases v with
 | agg cs => exact shareC_closed m h
 | box cs => exact shareC_closed m h
 | int k n => exact closed_of1 (shareCell_closed (c:=.int k n) _ h)
 | bool b => exact closed_of1 (shareCell_closed (c:=.bool b) _ h)
 | str b => exact closed_of1 (shareCell_closed (c:=.str b) _ h)
 | sl r xs => exact closed_of1 (shareCell_closed (c:=.sl r xs) _ h)
 | ow r xs => exact closed_of1 (shareCell_closed (c:=.ow r xs) _ h)
 | _ => cases h
theorem wait_slot (h:RelF w σ vs own) {us:List SV} {ws:List Value} {m:Nat} (ms:List Nat) (hw:Wait σ vs m us ws) (hc:us.all closed = true) :
  ∃ O:List Nat,O.Nodup∧(∀ b∈O,∃ k,m≤k∧k < m + us.length∧b∈own k)∧∀ S':Nat→Prop,(∀ b,Sh w own b→S' b)→(∀ k,m≤k→k < m + us.length→∀ b∈own k,b ∉ O→S' b)→∀ root,SlotRel w S' root (tupOf (shareVs ms us)) (tupVal ws) O:=by
 obtain ⟨O,h1,h2,h3⟩:=wait_keep h ms hw hc
 refine ⟨O,h1,h2,fun S' hS hf root => ?_⟩
 have hp:=h3 S' hS hf
 cases us with
 | nil =>
  cases ws with
  | nil => cases ms <;> exact ⟨#[],rfl,hp⟩
  | cons => exact hw.elim
 | cons u us =>
  cases ws with
  | nil => exact hw.elim
  | cons v ws =>
   cases us with
   | nil =>
    cases ws with
    | cons => exact hw.2.2.elim
    | nil =>
     have hcons:∃ n,shareVs ms [u] = [shareV n u]:=by
      cases ms with
      | nil => exact ⟨0,by rw [shareV_zero]; rfl⟩
      | cons n ms => exact ⟨n,by cases ms <;> rfl⟩
     obtain ⟨n,e⟩:=hcons
     rw [e] at hp ⊢
     obtain ⟨o₁,o₂,ho,h1,h2⟩:=hp
     have h2:o₂ = []:=h2
     subst h2
     rw [List.append_nil] at ho
     rw [ho]
     simp only [List.all_cons,List.all_nil,Bool.and_true] at hc
     exact part_slot_any (closed_shareV hc) h1
   | cons u' us =>
    cases ws with
    | nil => exact hw.2.2.elim
    | cons v' ws =>
     have hcons:∃ x y l,shareVs ms (u :: u' :: us) = x :: y :: l:=by
      cases ms with
      | nil => exact ⟨_,_,_,rfl⟩
      | cons n ms => cases ms <;> exact ⟨_,_,_,rfl⟩
     obtain ⟨x,y,l,e⟩:=hcons
     rw [e] at hp ⊢
     exact ⟨(v :: v' :: ws).toArray,rfl,by simpa using hp⟩
end
section
variable {P:Program}
def ResIs (P:Program) (tmps:Array Value) (w:World):ResultVar→Value→Prop
 | .tmp t,v => v = tmps.getD t undef
 | .cell a t,v => ∃ ad,tmps.getD a undef = .pointer (some ad)∧(loadVar t ad).run P w = .ok v w
def ResAre (P:Program) (tmps:Array Value) (w:World):List ResultVar→List Value→Prop
 | [],[] => True
 | r :: l,v :: vs => ResIs P tmps w r v∧ResAre P tmps w l vs
 | _,_ => False
theorem results_run {fn:Func} {tmps:Array Value} {w:World} {vals:List Value} (h:ResAre P tmps w fn.results.toList vals):(results fn tmps).run P w = .ok (tupVal vals) w:=by
 have key:∀ (F:ResultVar→Sem Value),(∀ t,F (.tmp t) = pure (tmps.getD t undef))→(∀ a t,F (.cell a t) = do loadVar t (← asAddr (tmps.getD a undef))) →
   ∀ (l:List ResultVar) (vals:List Value),ResAre P tmps w l vals→(l.mapM F).run P w = .ok vals w:=by
  intro F hF1 hF2 l
  induction l with
  | nil => intro vals h; cases vals with | nil => rfl | cons => exact h.elim
  | cons r l ih =>
   intro vals h
   cases vals with
   | nil => exact h.elim
   | cons v vals =>
    obtain ⟨h1,h2⟩:=h
    rw [List.mapM_cons]
    have hr:(F r).run P w = .ok v w:=by
     cases r with
     | tmp t => have h1:v = _:=h1; subst h1; rw [hF1]; rfl
     | cell a t =>
      obtain ⟨ad,h3,h4⟩:=h1
      rw [hF2,h3,Sem.run_bind]
      have:(asAddr (.pointer (some ad))).run P w = .ok ad w:=rfl
      rw [this]
      exact h4
    rw [Sem.run_bind,hr]
    simp only [Result.andThen_ok]
    rw [Sem.run_bind,ih vals h2]
    rfl
 unfold results
 rw [Array.mapM_eq_mapM_toList]
 rw [Sem.run_bind,Sem.run_map,key _ (fun _ => rfl) (fun _ _ => rfl) _ _ h]
 simp only [Result.andThen_ok]
 cases vals with
 | nil => rfl
 | cons v l => cases l <;> rfl
end
section
variable [Kp] {P:Program} {Q:FuncId→List SV→Res→Prop} {C:Ctx} {Φ:Oracle} {a:Act} {w:World} {N:Nat}
theorem resultsR_ex {β:Type} {r:β}:∀ (l:List ResultVar) (tys:List TypeId) (s:St) (κ:List SV→St→Option β),(OracleOk Φ Q)→resultsR C Φ β l tys s κ = some r→∃ us s',κ us s' = some r
 | [],tys,s,κ,_,h => ⟨[],s,h⟩
 | .tmp t :: l,[],s,κ,_,h => by cases h
 | .cell b t :: l,[],s,κ,_,h => by cases h
 | .tmp t :: l,ty :: tys,s,κ,hΦ,h => by
  obtain ⟨u,h1,h⟩:=RD.comes_of_run hΦ _ _ _ _ h
  obtain ⟨v,h2,h⟩:=Option.bind_eq_some_iff.1 h
  obtain ⟨us,s',h3⟩:=resultsR_ex l tys _ _ hΦ h
  exact ⟨_,_,h3⟩
 | .cell b t :: l,ty :: tys,s,κ,hΦ,h => by
  unfold resultsR at h
  split at h
  ·obtain ⟨g,h1,h⟩:=Option.bind_eq_some_iff.1 h
   obtain ⟨n,h2,h⟩:=Option.bind_eq_some_iff.1 h
   obtain ⟨v,h3,h⟩:=Option.bind_eq_some_iff.1 h
   obtain ⟨_,h⟩:=bif_some h
   obtain ⟨us,s',h3⟩:=resultsR_ex l tys _ _ hΦ h
   exact ⟨_,_,h3⟩
  ·cases h
theorem closed_leads {v:SV} (h:closed v = true):leads v = false:=by
 cases v with
 | agg cs =>
  show cs.any isRef = false
  rw [List.any_eq_false]
  intro c hc hr
  have:=List.all_eq_true.1 h c hc
  cases c <;> first | (cases hr; done) | (cases this; done)
 | rsl => cases h
 | rsb => cases h
 | rpc => cases h
 | rpe => cases h
 | _ => rfl
theorem coe_wait {σ:Nat→SV} {vs:Nat→Value} {own:Nat→List Nat} (h:RelF w σ vs own) {m:Nat} {ty:TypeId} {v:SV} (hc:coe P ty (σ m) = some v):∃ own',RelF w (fset σ m v) vs own'∧Fewer own own':=by
 have same:v = σ m→∃ own',RelF w (fset σ m v) vs own'∧Fewer own own':=by
  rintro rfl
  rw [fset_id]
  exact ⟨own,h,Fewer.refl own⟩
 cases hσ:σ m with
 | nsl =>
  rw [hσ] at hc
  obtain ⟨r,_,rfl⟩:=Option.map_eq_some_iff.1 hc
  have hno:NoWay m σ:=h.noWay (by rw [hσ]; rfl)
  have hs:=h.slot m
  rw [hσ] at hs
  have hv:vs m = .slice none 0 0∧own m = []:=by
   rcases hs with hs | hs
   ·exact hs
   ·exact hs.1.elim
  have:=h.turn (m:=m) (w':=w) (Ext.refl _ _) (sv':=.ow r []) (v':=vs m) (o':=[]) hno (fun _ => .inl (.inl ⟨none,hv.1,rfl,rfl⟩)) (by simp) (by simp) (by simp)
  rw [fset_id] at this
  refine ⟨_,this,fun i b hb => ?_⟩
  unfold fset at hb
  split at hb
  ·cases hb
  ·exact ⟨i,hb⟩
 | _ => rw [hσ] at hc; exact same (by rw [hσ]; exact (Option.some.inj hc).symm)
theorem unbox_wait {σ:Nat→SV} {vs:Nat→Value} {own:Nat→List Nat} (h:RelF w σ vs own) {m:Nat} {cs:List SV} (hσ:σ m = .box cs) (hno:NoWay m σ) {t:TypeId} {g:Bool} {n:Nat} (hg:aggO P t = some g) (hn:szT P t = some n) {v:SV}
  (hv:partV g cs 0 n = some v) (hl:n = cs.length) (hc:closed v = true) :
  ∃ ad val own',vs m = .pointer (some ad)∧(loadVar t ad).run P w = .ok val w∧RelF w (fset σ m v) (fset vs m val) own'∧Fewer own own':=by
 have hs:=h.slot m
 rw [hσ] at hs
 obtain ⟨b,c,e,o',hvm,hb,ho,hr⟩:=hs
 have hlen:=hr.each.1
 have fin:∀ (val:Value) (x:SV) (o'':List Nat),(∀ S':Nat→Prop,(∀ b,Sh w own b→S' b)→∀ root,SlotRel w S' root x val o'')→(∀ b∈o'',b∈o')→o''.Nodup→∃ own',RelF w (fset σ m x) (fset vs m val) own'∧Fewer own own':=by
  intro val x o'' hx hsub hnd
  refine ⟨_,h.turn (m:=m) (w':=w) (Ext.refl _ _) (sv':=x) (v':=val) (o':=o'') hno (fun hs => hx _ (fun b hb => (hs b hb).1) _) (fun b hb => .inl (by rw [ho]; simp [hsub b hb])) (fun b hb => h.lt m b (by rw [ho]; simp [hsub b hb])) hnd,fun i b hb => ?_⟩
  unfold fset at hb
  split at hb
  ·exact ⟨m,by rw [ho]; simp [hsub b hb]⟩
  ·exact ⟨i,hb⟩
 have hnd:o'.Nodup:=by have:=h.nodup m; rw [ho] at this; exact (List.nodup_cons.1 this).2
 unfold partV at hv
 cases g with
 | true =>
  rw [cond_true] at hv
  obtain ⟨_,hv⟩:=bif_some hv
  have hv:SV.agg ((cs.drop 0).take n) = v:=Option.some.inj hv
  have e1:(cs.drop 0).take n = cs:=by rw [List.drop_zero,hl,List.take_length]
  rw [e1] at hv
  subst hv
  have hsz:c.toList.length = n:=by rw [hl]; exact hlen.symm
  have hload:(loadVar t ⟨b,0,none⟩).run P w = .ok (.agg c) w:=by
   have:=run_load_agg (P:=P) hn hg (p:=0) hb (vs:=c) (by rw [List.drop_zero,← hsz,List.take_length]) (by simpa using hsz)
   simpa [Instr.loadAt,Instr.sureAddr] using this
  obtain ⟨own',h1,h2⟩:=fin (.agg c) (.agg cs) o' (fun S' hS root => ⟨c,rfl,CellsRel.root (by
    rw [List.any_eq_false]
    intro x hx hr'
    have:=List.all_eq_true.1 hc x hx
    cases x <;> first | (cases hr'; done) | (cases this; done)) (cells_closed hS hc hr)⟩) (fun _ h => h) hnd
  exact ⟨_,_,own',hvm,hload,h1,h2⟩
 | false =>
  rw [cond_false] at hv
  obtain ⟨h1,hv⟩:=bif_some hv
  have h1:=Nat.eq_of_beq_eq_true h1
  have:∃ x,cs = [x]:=by
   rw [h1] at hl
   match cs,hl with
   | [x],_ => exact ⟨x,rfl⟩
  obtain ⟨x,rfl⟩:=this
  have hv:x = v:=by simpa using hv
  subst hv
  cases hcl:c.toList with
  | nil => rw [hcl] at hlen; simp at hlen
  | cons u l =>
   rw [hcl] at hr
   obtain ⟨o₁,o₂,ho',h3,h4⟩:=hr
   have hl0:l = []:=by cases l with | nil => rfl | cons => exact h4.elim
   subst hl0
   have h4:o₂ = []:=h4
   subst h4
   have h3:CellRel w (Sh w own) x u o₁:=h3.resolve_right fun h => noRef h.1
   have hload:(loadVar t ⟨b,0,none⟩).run P w = .ok u w:=by
    have:=run_load_one (P:=P) hg (p:=0) hb (v:=u) (by rw [hcl]; rfl)
    simpa [Instr.loadAt,Instr.sureAddr] using this
   have hcell:closed1 x = true:=by
    cases x with
    | agg => exact h3.elim
    | box => exact h3.elim
    | _ => exact hc
   obtain ⟨own',h1,h2⟩:=fin u x o₁ (fun S' hS root => by
    have:=cell_closed hS (root:=noRoot) hcell (.inl h3)
    cases x with
    | agg => exact h3.elim
    | box => exact h3.elim
    | tup => exact h3.elim
    | ipt => exact h3.elim
    | _ => exact .inl this) (fun b hb => by rw [ho']; simp [hb]) (by rw [ho',List.append_nil] at hnd; exact hnd)
   exact ⟨_,_,own',hvm,hload,h1,h2⟩
end
end Go.V

namespace Go.V
open Go
section
variable [Kp] {P:Program} {Q:FuncId→List SV→Res→Prop} {C:Ctx} {Φ:Oracle} {a:Act} {w:World} {N:Nat}
theorem Wait.snoc {σ:Nat→SV} {vs:Nat→Value}:∀ {us:List SV} {ws:List Value} {m:Nat} {u:SV} {v:Value},Wait σ vs m us ws→σ (m + us.length) = u→vs (m + us.length) = v→Wait σ vs m (us ++ [u]) (ws ++ [v])
 | [],[],m,u,v,_,h1,h2 => ⟨h1,h2,trivial⟩
 | [],_ :: _,_,_,_,h,_,_ => h.elim
 | _ :: _,[],_,_,_,h,_,_ => h.elim
 | x :: us,y :: ws,m,u,v,⟨h0,h1,h2⟩,h3,h4 => ⟨h0,h1,Wait.snoc h2 (by rw [← h3]; congr 1; simp; omega) (by rw [← h4]; congr 1; simp; omega)⟩
theorem Wait.congr {σ σ':Nat→SV} {vs vs':Nat→Value}:∀ {us:List SV} {ws:List Value} {m:Nat},Wait σ vs m us ws→(∀ i,m≤i→i < m + us.length→σ' i = σ i∧vs' i = vs i)→Wait σ' vs' m us ws
 | [],[],m,_,_ => trivial
 | [],_ :: _,_,h,_ => h.elim
 | _ :: _,[],_,h,_ => h.elim
 | x :: us,y :: ws,m,⟨h0,h1,h2⟩,h => by
  have:=h m (Nat.le_refl _) (by simp)
  exact ⟨this.1.trans h0,this.2.trans h1,Wait.congr h2 fun i hi hi' => h i (by omega) (by simp; omega)⟩
theorem Wait.len {σ:Nat→SV} {vs:Nat→Value}:∀ {us:List SV} {ws:List Value} {m:Nat},Wait σ vs m us ws→us.length = ws.length
 | [],[],_,_ => rfl
 | [],_ :: _,_,h => h.elim
 | _ :: _,[],_,h => h.elim
 | x :: us,y :: ws,m,⟨_,_,h⟩ => by simp [Wait.len h]
theorem Wait.closed_at {σ:Nat→SV} {vs:Nat→Value}:∀ {us:List SV} {ws:List Value} {m:Nat},Wait σ vs m us ws→us.all closed = true→∀ i,m≤i→i < m + us.length→closed (σ i) = true
 | [],[],m,_,_,i,h1,h2 => by simp at h2; omega
 | [],_ :: _,_,h,_,_,_,_ => h.elim
 | _ :: _,[],_,h,_,_,_,_ => h.elim
 | x :: us,y :: ws,m,⟨h0,h1,h2⟩,hc,i,hi,hi' => by
  simp only [List.all_cons,Bool.and_eq_true] at hc
  by_cases e:i = m
  ·subst e; rw [h0]; exact hc.1
  ·exact Wait.closed_at h2 hc.2 i (by omega) (by simp at hi'; omega)
structure Ends (w:World) (s:St) (a:Act) (N:Nat) (us:List SV) (ws:List Value) (σ:Nat→SV) (vs:Nat→Value) (own:Nat→List Nat):Prop where
 rel:RelF w σ vs own
 low:∀ i,i < N→σ i = get s i∧vs i = tv a i
 out:∀ i,N≤i→get s i = .junk
 wait:Wait σ vs N us ws
 closed:us.all closed = true
 high:∀ i,N + us.length≤i→σ i = .junk
theorem resultsR_sound (hP:C.P = P) (hΦ:OracleOk Φ Q) {β:Type} {r:β}:∀ (l:List ResultVar) (tys:List TypeId) (s:St) (κ:List SV→St→Option β) (us:List SV) (ws:List Value) (σ:Nat→SV) (vs:Nat→Value) (own:Nat→List Nat),
  resultsR C Φ β l tys s κ = some r→(∀ us s',κ us s' = some r→us.all closed = true)→Ends w s a N us ws σ vs own →
  ∃ us' ws' s' σ' vs' own',κ us' s' = some r∧ResAre P a.tmps w l ws'∧Ends w s' a N (us ++ us') (ws ++ ws') σ' vs' own'∧Fewer own own':=by
 intro l
 induction l with
 | nil =>
  intro tys s κ us ws σ vs own h _ hE
  exact ⟨[],[],s,σ,vs,own,h,trivial,by simpa using hE,Fewer.refl own⟩
 | cons rv l ih =>
  intro tys s κ us ws σ vs own h hκ hE
  have hm:σ (N + us.length) = .junk:=hE.high _ (Nat.le_refl _)
  have hless:Less (get s) σ:=fun k => by
   by_cases hk:k < N
   ·exact .inr (hE.low k hk).1
   ·exact .inl (hE.out k (by omega))
  cases rv with
  | tmp t =>
   cases tys with
   | nil => cases h
   | cons ty tys =>
    obtain ⟨u,h1,h⟩:=RD.comes_of_run hΦ _ _ _ _ h
    obtain ⟨v,h2,h⟩:=Option.bind_eq_some_iff.1 h
    have hcl:closed v = true:=by
     obtain ⟨us',s',h3⟩:=resultsR_ex l tys _ _ hΦ h
     have:=hκ _ _ h3
     simp only [List.all_cons,Bool.and_eq_true] at this
     exact this.1
    obtain ⟨hc,hcalm⟩:=take_more hless h1
    have hne:u.1 ≠ .junk:=by
     intro e
     rw [e] at h2
     have h2:SV.junk = v:=Option.some.inj h2
     rw [← h2] at hcl; cases hcl
    have hc:=hc.resolve_left hne
    have htN:t < N:=by
     rcases Nat.lt_or_ge t N with h | h
     ·exact h
     ·exfalso
      have hj:=hE.out t h
      have h1:RD.Comes Q (get s) (takeR (.tmp t)) u:=h1
      simp only [takeR,RD.Comes,hj] at h1
      rw [← h1] at hne
      exact hne rfl
    have hmv:=take_soundV hE.rel hm hc
    obtain ⟨own1,hR1,hF1,hJ1,hW1⟩:=hmv
    have hev:evV vs (.tmp t) = tv a t:=(hE.low t htN).2
    rw [hev] at hR1
    have hjunk:∀ f,Step.all f∈u.2→f .junk = .junk:=by
     have:StepsOk true u.2:=(sall_take (R:=Q) (b:=true) (.tmp t)).comes h1
     exact fun f hf => this.junk hf
    have hco:coe P ty (fset (stepsF σ u.2) (N + us.length) u.1 (N + us.length)) = some v:=by rw [fset_self,← hP]; exact h2
    obtain ⟨own2,hR2,hF2⟩:=coe_wait hR1 hco
    rw [fset_fset] at hR2
    have hE':Ends w (stepsA s u.2) a N (us ++ [v]) (ws ++ [tv a t]) (fset (stepsF σ u.2) (N + us.length) v) (fset vs (N + us.length) (tv a t)) own2:=by
     refine ⟨hR2,fun i hi => ?_,fun i hi => ?_,?_,?_,fun i hi => ?_⟩
     ·rw [fset_ne _ _ (by omega),fset_ne _ _ (by omega),get_steps _ _ hjunk,stepsF_at,stepsF_at,(hE.low i hi).1]
      exact ⟨rfl,(hE.low i hi).2⟩
     ·rw [get_steps _ _ hjunk,stepsF_at,hE.out i hi]
      exact hcalm i .junk (hE.out i hi) rfl
     ·refine Wait.snoc (hE.wait.congr fun i hi hi' => ?_) (by rw [fset_self]) (by rw [fset_self])
      rw [fset_ne _ _ (by omega),fset_ne _ _ (by omega),stepsF_at]
      exact ⟨hcalm i _ (hE.out i hi) (closed_leads (hE.wait.closed_at hE.closed i hi hi')),rfl⟩
     ·simp [hE.closed,hcl]
     ·simp only [List.length_append,List.length_singleton] at hi
      rw [fset_ne _ _ (by omega),stepsF_at,hE.high i (by omega)]
      exact hcalm i .junk (hE.out i (by omega)) rfl
    obtain ⟨us',ws',s',σ',vs',own',h3,h4,h5,h6⟩:=ih tys _ _ _ _ _ _ _ h (fun us s' hk => by
     have:=hκ _ _ hk
     simp only [List.all_cons,Bool.and_eq_true] at this
     exact this.2) hE'
    exact ⟨v :: us',tv a t :: ws',s',σ',vs',own',h3,⟨rfl,h4⟩,by simpa using h5,(Fewer.trans hF1 hF2).trans h6⟩
  | cell b t =>
   cases tys with
   | nil => cases h
   | cons ty tys =>
    unfold resultsR at h
    split at h
    ·rename_i cs hbox
     obtain ⟨g,hg,h⟩:=Option.bind_eq_some_iff.1 h
     obtain ⟨n,hn,h⟩:=Option.bind_eq_some_iff.1 h
     obtain ⟨v,hv,h⟩:=Option.bind_eq_some_iff.1 h
     obtain ⟨hl,h⟩:=bif_some h
     have hl:=Nat.eq_of_beq_eq_true hl
     rw [hP] at hg hn
     have hcl:closed v = true:=by
      obtain ⟨us',s',h3⟩:=resultsR_ex l tys _ _ hΦ h
      have:=hκ _ _ h3
      simp only [List.all_cons,Bool.and_eq_true] at this
      exact this.1
     have htN:b < N:=by
      rcases Nat.lt_or_ge b N with h | h
      ·exact h
      ·rw [hE.out b h] at hbox; cases hbox
     have hσb:σ b = .box cs:=by rw [(hE.low b htN).1]; exact hbox
     have hc:(takeR (.tmp b)).Comes Q σ (.box cs,gone b):=by
      simp only [takeR,RD.Comes,hσb]
     obtain ⟨own1,hR1,hF1,hJ1,hW1⟩:=take_soundV hE.rel hm hc
     have hev:evV vs (.tmp b) = tv a b:=(hE.low b htN).2
     rw [hev] at hR1
     have hno:NoWay (N + us.length) (fset (stepsF σ (gone b)) (N + us.length) (.box cs)):=hW1.set rfl
     obtain ⟨ad,val,own2,h3,h4,hR2,hF2⟩:=unbox_wait (P:=P) hR1 (m:=N + us.length) (cs:=cs) (fset_self _ _ _) hno hg hn hv hl hcl
     rw [fset_self] at h3
     rw [fset_fset,fset_fset] at hR2
     have hnb:∀ i:Nat,N≤i→¬ (i = b):=fun i hi e => absurd htN (Nat.not_lt.2 (e ▸ hi))
     have hdrop:∀ k,get (drop1 s b) k = unhit b none (if k = b then .junk else get s k):=by
      intro k
      unfold drop1
      rw [hbox]
      show get (mapS (unhit b none) (del s b)) k = _
      rw [get_map _ rfl,get_del]
     have hE':Ends w (drop1 s b) a N (us ++ [v]) (ws ++ [val]) (fset (stepsF σ (gone b)) (N + us.length) v) (fset vs (N + us.length) val) own2:=by
      refine ⟨hR2,fun i hi => ?_,fun i hi => ?_,?_,?_,fun i hi => ?_⟩
      ·rw [fset_ne _ _ (by omega),fset_ne _ _ (by omega),hdrop,gone_eq,(hE.low i hi).1]
       exact ⟨rfl,(hE.low i hi).2⟩
      ·rw [hdrop,if_neg (hnb i hi),hE.out i hi]; rfl
      ·refine Wait.snoc (hE.wait.congr fun i hi hi' => ?_) (by rw [fset_self]) (by rw [fset_self])
       rw [fset_ne _ _ (by omega),fset_ne _ _ (by omega),gone_eq,if_neg (hnb i hi)]
       exact ⟨unhit_leads (closed_leads (hE.wait.closed_at hE.closed i hi hi')),rfl⟩
      ·simp [hE.closed,hcl]
      ·simp only [List.length_append,List.length_singleton] at hi
       rw [fset_ne _ _ (by omega),gone_eq,if_neg (hnb i (by omega)),hE.high i (by omega)]; rfl
     obtain ⟨us',ws',s',σ',vs',own',h5,h6,h7,h8⟩:=ih tys _ _ _ _ _ _ _ h (fun us s' hk => by
      have:=hκ _ _ hk
      simp only [List.all_cons,Bool.and_eq_true] at this
      exact this.2) hE'
     exact ⟨v :: us',val :: ws',s',σ',vs',own',h5,⟨⟨ad,h3,h4⟩,h6⟩,by simpa using h7,(Fewer.trans hF1 hF2).trans h8⟩
    ·cases h
theorem outsV_spec {s:St}:∀ {args:List SV} {i:Nat} {os:List (List SV)},outsV s i args = some os→∃ l,afterL args os = some l∧l.length = args.length∧∀ j,slotsOf l j = (if isBox (slotsOf args j) = true then get s (i + j) else .junk)∧(isBox (slotsOf args j) = true→isBox (get s (i + j)) = true)
 | [],i,os,h => by
  have h:some [] = some os:=h
  cases h
  exact ⟨[],rfl,rfl,fun j => ⟨by simp [slotsOf,isBox],by simp [slotsOf,isBox]⟩⟩
 | v :: args,i,os,h => by
  by_cases hv:isBox v = true
  ·cases v with
   | box cs =>
    have h:(match get s i with
     | .box cs => bif cs.all (fun c => closed1 c || isRo c) then (outsV s (i + 1) args).bind fun os => some (cs :: os) else none
     | _ => none) = some os:=h
    split at h
    ·rename_i cs' hcs
     obtain ⟨_,h⟩:=bif_some h
     obtain ⟨os',h1,h⟩:=Option.bind_eq_some_iff.1 h
     cases h
     obtain ⟨l,h2,h3,h4⟩:=outsV_spec h1
     refine ⟨.box cs' :: l,by simp [afterL,h2],by simp [h3],fun j => ?_⟩
     cases j with
     | zero => simp [slotsOf,isBox,hcs]
     | succ j =>
      have:=h4 j
      rw [show i + 1 + j = i + (j + 1) by omega] at this
      exact this
    ·cases h
   | _ => cases hv
  ·have h':outsV s (i + 1) args = some os:=by cases v <;> first | exact h | exact (hv rfl).elim
   obtain ⟨l,h2,h3,h4⟩:=outsV_spec h'
   refine ⟨.junk :: l,by cases v <;> first | exact (hv rfl).elim | simp [afterL,h2],by simp [h3],fun j => ?_⟩
   cases j with
   | zero =>
    have:isBox (slotsOf (v :: args) 0) = false:=by simpa [slotsOf] using hv
    rw [this]
    exact ⟨rfl,fun h => by cases h⟩
   | succ j =>
    have:=h4 j
    rw [show i + 1 + j = i + (j + 1) by omega] at this
    exact this
theorem finK_sound [Fx] (hP:C.P = P) (hΦ:OracleOk Φ Q) {fn:Func} {sh:List Nat} {args:List SV} {as:List Value} {ρ:Type} {dc:Res→Option ρ} {y:ρ} {s:St} {own:Nat→List Nat} (h:finK C Φ fn sh args ρ dc s = some y) (hR:RelA w (get s) a N own) (hlen:args.length≤N)
  (hfix:∀ i,isBox (slotsOf args i) = true→tv a i = valsOf as i) :
  ∃ val res,(results fn a.tmps).run P w = .ok val w∧dc res = some y∧∃ l own',afterL args res.outs = some l∧RelF w (fset (slotsOf l) args.length res.ret) (fset (valsOf as) args.length val) own'∧Fewer own own':=by
 have hE:Ends w s a N [] [] (get s) (tv a) own:=⟨hR.rel,fun i _ => ⟨rfl,rfl⟩,hR.out,trivial,rfl,fun i hi => hR.out i (by simpa using hi)⟩
 unfold finK at h
 obtain ⟨us,ws,s',σ,vs,own',h1,h2,hE',hF⟩:=resultsR_sound hP hΦ _ _ _ _ _ _ _ _ _ h (fun us s' hk => by
  obtain ⟨outs,_,hk⟩:=Option.bind_eq_some_iff.1 hk
  exact (bif_some hk).1) hE
 simp only [List.nil_append] at hE'
 obtain ⟨outs,h3,h4⟩:=Option.bind_eq_some_iff.1 h1
 obtain ⟨h5,h6⟩:=bif_some h4
 obtain ⟨l,h7,h8,h9⟩:=outsV_spec h3
 obtain ⟨O,w1,w2,w3⟩:=wait_slot hE'.rel sh hE'.wait hE'.closed
 have hnj:slotsOf args args.length = .junk:=by simp [slotsOf]
 have hlow:∀ i,isBox (slotsOf args i) = true→i < args.length:=by
  intro i hi
  rcases Nat.lt_or_ge i args.length with h | h
  ·exact h
  ·simp [slotsOf,List.getElem?_eq_none h,isBox] at hi
 have hg:=gather (ms:=List.range' N us.length) hE'.rel (fun i => isBox (slotsOf args i)) (fun i hi => by
   have:=(h9 i).2 hi
   rw [Nat.zero_add] at this
   rw [(hE'.low i (by have:=hlow i hi; omega)).1]
   exact this) (fun m hm => by
   rw [List.mem_range'_1] at hm
   cases hb:isBox (slotsOf args m) with
   | false => rfl
   | true => have:=hlow m hb; omega) args.length (by show isBox (slotsOf args args.length) = false; rw [hnj]; rfl) (tupOf (shareVs sh us)) (tupVal ws) O (fun b hb => by
   obtain ⟨k,h1,h2,h3⟩:=w2 b hb
   exact ⟨k,by rw [List.mem_range'_1]; omega,h3⟩) w1 (fset (valsOf as) args.length (tupVal ws)) (fun i hi => by
   have:=hlow i hi
   rw [fset_ne _ _ (by omega),← hfix i hi]
   exact ((hE'.low i (by omega)).2).symm) (fset_self _ _ _) (fun S' hS hf root => w3 S' hS (fun k hk1 hk2 b hb hno => hf k (by rw [List.mem_range'_1]; omega) b hb hno) root)
 refine ⟨_,_,results_run h2,h6,l,(fun i => if i = args.length then O else if isBox (slotsOf args i) = true then own' i else []),h7,?_,hF.trans fun i b hb => ?_⟩
 ·have e:(fun i => if i = args.length then tupOf (shareVs sh us) else if isBox (slotsOf args i) = true then σ i else .junk) = fset (slotsOf l) args.length (tupOf (shareVs sh us)):=by
   funext i
   unfold fset
   by_cases hi:i = args.length
   ·simp [hi]
   ·simp only [hi,if_false]
    have:=(h9 i).1
    rw [this,Nat.zero_add]
    by_cases hb:isBox (slotsOf args i) = true
    ·simp only [hb,if_true]
     have:=hlow i hb
     exact (hE'.low i (by omega)).1
    ·simp only [hb,if_false,Bool.false_eq_true]
  rw [e] at hg
  exact hg
 ·by_cases hi:i = args.length
  ·simp only [hi,if_true] at hb
   obtain ⟨k,_,_,h3⟩:=w2 b hb
   exact ⟨k,h3⟩
  ·simp only [hi,if_false] at hb
   split at hb
   ·exact ⟨i,hb⟩
   ·cases hb
end
theorem get_init:∀ (l:List SV) (i k:Nat),get (initSt i l) k = if k < i then .junk else slotsOf l (k - i)
 | [],i,k => by simp [initSt,get,slotsOf]
 | v :: l,i,k => by
  simp only [initSt,get]
  by_cases h:i = k
  ·subst h
   simp [slotsOf]
  ·rw [beq_false h]
   simp only [cond_false]
   rw [get_init l (i + 1) k]
   by_cases hk:k < i
   ·rw [if_pos (by omega),if_pos hk]
   ·rw [if_neg (by omega),if_neg hk]
    have:k - i = (k - (i + 1)) + 1:=by omega
    rw [this]
    simp [slotsOf]
theorem fn_sound {P:Program} {Q:FuncId→List SV→Res→Prop} {C:Ctx} {Φ:Oracle} {cuts:List (Nat×Cut)} (hm:P.follows .mixedOrders = true) (hP:C.P = P) (hQ:∀ f vs res,Q f vs res→Snd P f vs res) (hΦ:∀ [Kp],OracleOk Φ Q)
  {f:FuncId} {fn:Func} (hf:P.funcs[f]? = some fn) (hname:(fn.name == "runtime.NumGoroutine") = false) {root:Code} (hb:fn.body = some root)
  (hcuts:∀ q Λ,cutAt cuts q = some Λ→∀ c,At root 1 c q→CutOk P C C.n c Λ) {sh:List Nat} {args:List SV} {ρ:Type} {dc:Res→Option ρ} {y:ρ} {R:Res} (hfx:∀ i,isBox (slotsOf args i) = true→Nat.testBit C.fx i = true)
  (h:callK C Φ cuts fn sh args ρ dc = some y) (hdc:∀ res,dc res = some y→res = R):Snd P f args R:=by
 refine ⟨⟨fn,hf,hname,by rw [hb]; rfl⟩,fun K w as own hlen hrel => ?_⟩
 letI:=K
 letI:Fx:=⟨fun i => if isBox (slotsOf args i) = true then some (valsOf as i) else none⟩
 unfold callK at h
 rw [hb] at h
 obtain ⟨hsz,h⟩:=bif_some h
 rw [Bool.and_eq_true] at hsz
 have hsz1:=Nat.eq_of_beq_eq_true hsz.1
 have hsz2:=Nat.le_of_ble_eq_true hsz.2
 refine calls_of_wp hf hb ?_
 have hget:get (initSt 0 args) = slotsOf args:=by
  funext k
  rw [get_init]
  simp
 have htv:tv { tmps:=as.toArray ++ Array.replicate (fn.ntmps - as.toArray.size) undef,defers:=[] } = valsOf as:=by
  funext i
  unfold tv valsOf
  rw [Array.getD_eq_getD_getElem?,Array.getElem?_append]
  by_cases hi:i < as.length
  ·simp [hi]
  ·have:as[i]? = none:=List.getElem?_eq_none (by omega)
   rw [this]
   simp only [List.size_toArray,hi,if_false,Option.getD_none]
   cases hx:(Array.replicate (fn.ntmps - as.length) undef)[i - as.length]? with
   | none => rfl
   | some v =>
    rw [Array.getElem?_replicate] at hx
    split at hx
    ·cases hx; rfl
    ·cases hx
 have hR:RelA w (get (initSt 0 args)) { tmps:=as.toArray ++ Array.replicate (fn.ntmps - as.toArray.size) undef,defers:=[] } C.n own:=by
  refine ⟨by simp; omega,rfl,by rw [hget,htv]; exact hrel,fun i hi => ?_,fun i v hi => ?_⟩
  ·rw [hget]; simp [slotsOf,List.getElem?_eq_none (show args.length≤i by omega)]
  ·rw [htv]
   have hi:(if isBox (slotsOf args i) = true then some (valsOf as i) else none) = some v:=hi
   split at hi
   ·cases hi; rfl
   ·cases hi
 have hN:CN C C.n:=⟨rfl,fun d v hd => by
  have hd:(if isBox (slotsOf args d) = true then some (valsOf as d) else none) = some v:=hd
  split at hd
  ·rename_i hb; exact hfx d hb
  ·cases hd⟩
 refine run_sound hm hP hQ hΦ hcuts root 1 (.refl _ _) hN (initSt 0 args) ρ _ y _ w own own w _ h hR (Later.refl w own) fun o e a' w' own' hk hO hL => ?_
 have fin:∀ s,finK C Φ fn sh args ρ dc s = some y→RelA w' (get s) a' C.n own'→a'.defers = []∧∃ v,(results fn a'.tmps).run P w' = .ok v w'∧∃ val l own',Ending.returned v = .returned val∧afterL args R.outs = some l ∧
   RelF w' (fset (slotsOf l) args.length R.ret) (fset (valsOf as) args.length val) own'∧Ext w w' (fun b => ∃ i,b∈own i)∧(∀ i,∀ b∈own' i,(∃ j,b∈own j)∨w.heap.size≤b):=by
  intro s hs hR'
  obtain ⟨val,res,h1,h2,l,own₂,h3,h4,h5⟩:=finK_sound (Q:=Q) (as:=as) hP hΦ hs hR' hsz2 fun i hi => hR'.fix i (valsOf as i) (by
   show (if isBox (slotsOf args i) = true then some (valsOf as i) else none) = _
   rw [if_pos hi])
  have:=hdc res h2
  subst this
  exact ⟨hR'.defers,val,h1,val,l,own₂,rfl,h3,h4,hL.1,(hL.fewer h5).2⟩
 cases o with
 | norm s => obtain ⟨rfl,hR'⟩:=hO; exact fin s hk hR'
 | ret s => obtain ⟨rfl,hR'⟩:=hO; exact fin s hk hR'
 | exit i s => cases hk
end Go.V

namespace Go.V
open Go
def unbox:SV→List SV
 | .box cs => cs
 | _ => []
structure Entry where
 f:FuncId
 a:Shps
 r:Shp
 o:Shps
 T:a.den→Option (r.den×o.den)
def encRes (r:Shp) (o:Shps) (x:r.den×o.den):Res:=⟨r.to x.1,(o.to x.2).map unbox⟩
def decRes (r:Shp) (o:Shps) (res:Res):Option (r.den×o.den):=(r.of res.ret).bind fun a => (o.of (res.outs.map .box)).bind fun b => some (a,b)
theorem decRes_enc {r:Shp} {o:Shps} {res:Res} {x:r.den×o.den} (h:decRes r o res = some x):res = encRes r o x:=by
 obtain ⟨a,h1,h⟩:=Option.bind_eq_some_iff.1 h
 obtain ⟨b,h2,h⟩:=Option.bind_eq_some_iff.1 h
 cases h
 have e1:=Shp.of_to _ _ _ h1
 have e2:=Shps.of_to _ _ _ h2
 cases res with
 | mk ret outs =>
  show _ = Res.mk _ _
  rw [e1,e2]
  congr 1
  have key:∀ l:List (List SV),l = (l.map SV.box).map unbox:=by
   intro l
   induction l with
   | nil => rfl
   | cons c l ih => simp only [List.map_cons]; rw [← ih]; rfl
  exact key outs
def orac:List Entry→Oracle
 | [],_,_,_,_ => none
 | e :: l,f,vs,β,κ => bif Nat.beq e.f f then (match e.a.of vs with | some x => (e.T x).bind fun y => κ (encRes e.r e.o y) | none => orac l f vs β κ) else orac l f vs β κ
def EntryOk (P:Program) (e:Entry):Prop:=∀ x y,e.T x = some y→Snd P e.f (e.a.to x) (encRes e.r e.o y)
theorem orac_ok [Kp] {P:Program}:∀ {l:List Entry},(∀ e∈l,EntryOk P e)→OracleOk (orac l) (Snd P)
 | [],_ => by intro f vs β κ r h; cases h
 | e :: l,hl => by
  intro f vs β κ r h
  have ih:=orac_ok (l:=l) fun e he => hl e (by simp [he])
  have h:(bif Nat.beq e.f f then (match e.a.of vs with | some x => (e.T x).bind fun y => κ (encRes e.r e.o y) | none => orac l f vs β κ) else orac l f vs β κ) = some r:=h
  by_cases hf:e.f = f
  ·subst hf
   rw [Nat.beq_refl,cond_true] at h
   cases hx:e.a.of vs with
   | none => rw [hx] at h; exact ih _ vs β κ r h
   | some x =>
    rw [hx] at h
    obtain ⟨y,h1,h2⟩:=Option.bind_eq_some_iff.1 h
    have e1:=Shps.of_to _ _ _ hx
    refine ⟨_,?_,h2⟩
    rw [← e1]
    exact hl e (by simp) x y h1
  ·rw [beq_false hf,cond_false] at h
   exact ih f vs β κ r h
def CutsOk (P:Program) (C:Ctx) (root:Code) (cuts:List (Nat×Cut)):Prop:=∀ q Λ,cutAt cuts q = some Λ→∀ c,At root 1 c q→CutOk P C C.n c Λ
theorem CutsOk.nil {P:Program} {C:Ctx} {root:Code}:CutsOk P C root []:=by intro q Λ h; cases h
theorem CutsOk.cons {P:Program} {C:Ctx} {root:Code} {cuts:List (Nat×Cut)} (h:CutsOk P C root cuts) {q:Nat} {Λ:Cut} (h':∀ c,At root 1 c q→CutOk P C C.n c Λ):CutsOk P C root ((q,Λ) :: cuts):=by
 intro p M hc c hat
 unfold cutAt at hc
 by_cases e:q = p
 ·subst e
  rw [Nat.beq_refl,cond_true] at hc
  cases hc
  exact h' c hat
 ·rw [beq_false e,cond_false] at hc
  exact h p M hc c hat
def subAt (root:Code) (q:Nat):Code:=match findAt q root 1 with | [c] => c | _ => .skip
def bodyOf:Code→Code | .loop c => c | c => c
def isLoop:Code→Bool | .loop _ => true | _ => false
def oneAt (root:Code) (q:Nat):Bool:=match findAt q root 1 with | [_] => true | _ => false
theorem subAt_eq {root c:Code} {q:Nat} (h1:oneAt root q = true) (h:At root 1 c q):subAt root q = c:=by
 have:=findAt_mem h (by omega)
 unfold oneAt at h1
 unfold subAt
 generalize findAt q root 1 = L at h1 this
 split at h1
 ·rename_i d
  simp only [List.mem_singleton] at this
  exact this.symm
 ·cases h1
section
variable {P:Program} {C:Ctx} {l:List Entry} {cuts:List (Nat×Cut)} {root:Code}
theorem CutsOk.cut (hm:P.follows .mixedOrders = true) (hP:C.P = P) (hl:∀ e∈l,EntryOk P e) (h:CutsOk P C root cuts) (q:Nat) (s:Shps) (ids:List Nat) (ws:List Way) (f:s.den→Option (Ways ws)) (h1:oneAt root q = true)
  (hf:∀ x,f x = run C (orac l) cuts (subAt root q) q (s.st ids x) (Ways ws) (Ways.of ws)):CutsOk P C root ((q,cutOf s ids ws f) :: cuts):=by
 refine h.cons fun c hc => ?_
 intro K F
 have e:=subAt_eq h1 hc
 rw [e] at hf
 exact cut_sound (Q:=Snd P) hm hP (fun _ _ _ h => h) (orac_ok hl) h hc s ids ws f hf
theorem CutsOk.loop (hm:P.follows .mixedOrders = true) (hP:C.P = P) (hl:∀ e∈l,EntryOk P e) (h:CutsOk P C root cuts) (q:Nat) (s:Shps) (ids:List Nat) (ws:List Way) (f:s.den→Option (s.den ⊕ Ways ws)) (h1:oneAt root q = true) (h2:isLoop (subAt root q) = true)
  (hf:∀ x,f x = run C (orac l) cuts (bodyOf (subAt root q)) (2 * q) (s.st ids x) (s.den ⊕ Ways ws) (roundOf s ids ws)):CutsOk P C root ((q,loopOf s ids ws f) :: cuts):=by
 refine h.cons fun c hc => ?_
 intro K F
 have e:=subAt_eq h1 hc
 rw [e] at hf h2
 cases c <;> first | (cases h2; done) | skip
 exact loop_sound (Q:=Snd P) hm hP (fun _ _ _ h => h) (orac_ok hl) h hc s ids ws f hf
def boxMask:Nat→List SV→Nat
 | _,[] => 0
 | i,v :: l => match v with | .box _ => Nat.lor (bit i) (boxMask (i + 1) l) | _ => boxMask (i + 1) l
theorem boxMask_at:∀ {l:List SV} {i j:Nat},isBox (slotsOf l j) = true→Nat.testBit (boxMask i l) (i + j) = true
 | [],i,j,h => by simp [slotsOf,isBox] at h
 | v :: l,i,0,h => by
  have h:isBox v = true:=h
  cases v <;> first | (cases h; done) | skip
  simp only [boxMask,testBit_lor,Bool.or_eq_true]
  left; rw [testBit_bit]; simp
 | v :: l,i,j + 1,h => by
  have h':isBox (slotsOf l j) = true:=h
  have:=boxMask_at (i:=i + 1) h'
  rw [show i + 1 + j = i + (j + 1) by omega] at this
  unfold boxMask
  split
  ·simp only [testBit_lor,Bool.or_eq_true]; exact .inr this
  ·exact this
theorem entry_ok (hm:P.follows .mixedOrders = true) (hP:C.P = P) (hl:∀ e∈l,EntryOk P e) {f:FuncId} {fn:Func} (hf:P.funcs[f]? = some fn) (hname:(fn.name == "runtime.NumGoroutine") = false) (hb:fn.body = some root) (h:CutsOk P C root cuts)
  (sh:List Nat) (a:Shps) (r:Shp) (o:Shps) (T:a.den→Option (r.den×o.den)) (hfx:∀ x,boxMask 0 (a.to x) = C.fx) (hT:∀ x,T x = callK C (orac l) cuts fn sh (a.to x) (r.den×o.den) (decRes r o)):EntryOk P ⟨f,a,r,o,T⟩:=by
 intro x y hy
 have hy:T x = some y:=hy
 rw [hT] at hy
 refine fn_sound (Q:=Snd P) hm hP (fun _ _ _ h => h) (orac_ok hl) hf hname hb h (fun i hi => ?_) hy fun res hres => decRes_enc hres
 rw [← hfx x]
 have:=boxMask_at (i:=0) hi
 rwa [Nat.zero_add] at this
end
end Go.V

namespace Go.V
open Go Go.RowKit
@[reducible] def topK (W:World):Kp:=⟨fun _ => True,fun _ => False,W,fun _ => False⟩
def ArgRel (W:World) (v:SV) (a:Value):Prop :=
 match v with
 | .int k n => a = .int k n
 | .bool b => a = .bool b
 | .str s => a = .string s
 | .sl r xs => SlRel W (fun b => b < W.heap.size) r a xs
 | _ => False
def ArgsRel (W:World):List SV→List Value→Prop
 | [],[] => True
 | v :: vs,a :: as => ArgRel W v a∧ArgsRel W vs as
 | _,_ => False
theorem ArgsRel.len {W:World}:∀ {vs:List SV} {as:List Value},ArgsRel W vs as→as.length = vs.length
 | [],[],_ => rfl
 | [],_ :: _,h => h.elim
 | _ :: _,[],h => h.elim
 | _ :: _,_ :: _,h => by simp [ArgsRel.len h.2]
theorem ArgsRel.at {W:World}:∀ {vs:List SV} {as:List Value} (i:Nat),ArgsRel W vs as→(slotsOf vs i = .junk)∨ArgRel W (slotsOf vs i) (valsOf as i)
 | [],_,i,_ => .inl (by simp [slotsOf])
 | _ :: _,[],_,h => h.elim
 | _ :: _,_ :: _,0,h => .inr h.1
 | _ :: vs,_ :: as,i + 1,h => by
  have:=ArgsRel.at i h.2
  simpa [slotsOf,valsOf] using this
theorem Snd.law {P:Program} {f:FuncId} {vs:List SV} {b:Bool} (h:Snd P f vs ⟨.bool b,[]⟩) (W:World) (as:List Value) (ha:ArgsRel W vs as) :
  Calls P f as.toArray W fun e w' => e = .returned (.bool b)∧Below W.heap.size W w':=by
 letI:Kp:=topK W
 have hrel:RelF W (slotsOf vs) (valsOf as) fun _ => []:=by
  refine ⟨fun i => ?_,fun _ => by simp,fun _ _ _ _ h => (by cases h),fun _ _ h => (by cases h),fun _ _ h => (by cases h),fun _ _ => trivial,fun _ (h:False) => h.elim⟩
  rcases ha.at i with hj | hr
  ·rw [hj]; exact slotJunk
  ·revert hr
   generalize slotsOf vs i = v
   generalize valsOf as i = a
   intro hr
   cases v with
   | int k n => cases hr; exact .inl ⟨rfl,rfl⟩
   | bool b => cases hr; exact .inl ⟨rfl,rfl⟩
   | str s => cases hr; exact .inl ⟨rfl,rfl⟩
   | sl r xs =>
    refine .inl ⟨?_,rfl⟩
    have hr:SlRel W (fun b => b < W.heap.size) r a xs:=hr
    exact hr.mono (fun b hb => ⟨⟨hb,trivial⟩,fun _ h => by cases h⟩) fun _ _ => rfl
   | _ => exact hr.elim
 refine (h.2 (topK W) W as (fun _ => []) ha.len hrel).mono ?_
 rintro e w' ⟨val,l,own',rfl,haf,hr,hext,_⟩
 have hs:=hr.slot vs.length
 rw [fset_self,fset_self] at hs
 rcases hs with hs | hs
 ·refine ⟨by rw [hs.1],hext.os,hext.tape,hext.output,hext.size,fun k hk => hext.block k hk ?_⟩
  rintro ⟨i,hi⟩; cases hi
 ·exact hs.1.elim
theorem ArgRel.ints {W:World} {k:IntKind} {a:Option Addr} {len cap:Nat} {zs:List Int}
  (h:(a = none∧len = 0∧cap = 0∧zs = [])∨∃ x,a = some x∧len≤cap∧zs.length = cap∧∀ i,i < zs.length→W.cell? (x.add i) = some (.int k (zs.getD i 0))) :
  ArgRel W (.sl (.one (.int k)) (zs.take len:List Int)) (.slice a len cap):=by
 show SlRel W _ (.one (.int k)) _ (zs.take len:List Int)
 rcases h with ⟨rfl,rfl,rfl,rfl⟩ | ⟨x,rfl,hle,hz,hc⟩
 ·exact ⟨none,0,rfl,Nat.le_refl _,fun h => (h rfl).elim⟩
 ·have hl:(zs.take len).length = len:=by simp; omega
  refine ⟨some x,cap,congrArg (fun n => Value.slice (some x) n cap) hl.symm,Nat.le_trans (Nat.le_of_eq hl) hle,fun hne => ?_⟩
  have hne:len ≠ 0:=fun e => hne (hl.trans e)
  have h0:=hc 0 (by omega)
  have hx0:x.add 0 = x:=by simp [Addr.add]
  rw [hx0] at h0
  unfold World.cell? at h0
  cases hb:W.heap[x.block]? with
  | none => rw [hb] at h0; cases h0
  | some ob =>
   rw [hb] at h0
   cases ob with
   | cells c e fz =>
    simp only at h0
    have hsp:x.spot = none:=by
     cases hs:x.spot with
     | none => rfl
     | some s => rw [hs] at h0; simp at h0
    refine ⟨x.block,x.off,c,e,fz,?_,(Array.getElem?_eq_some_iff.1 hb).1,hb,fun i y hi => ?_⟩
    ·cases x; simp only at hsp; rw [hsp]
    ·have hi2:(zs.take len)[i]? = some y:=hi
     have hil:i < len:=by
      have:=(List.getElem?_eq_some_iff.1 hi2).1
      omega
     have hiz:i < zs.length:=by omega
     have hci:=hc i hiz
     have hy:zs.getD i 0 = y:=by
      rw [List.getElem?_take,if_pos hil] at hi2
      rw [List.getD_eq_getElem?_getD,hi2]; rfl
     have hcell:c[x.off + i]? = some (.int k y):=by
      rw [hy] at hci
      unfold World.cell? Addr.add at hci
      by_cases h0:i = 0
      ·subst h0
       simp only [if_true,hb,hsp] at hci
       simpa using hci
      ·simp only [h0,if_false,hb] at hci
       simpa using hci
     have hrl:(Row.one (.int k)).len = 1:=rfl
     rw [hrl,Nat.mul_one]
     unfold Row.rel
     refine ⟨.int k y,?_,rfl⟩
     have:(c.toList.drop (x.off + i))[0]? = some (.int k y):=by
      rw [List.getElem?_drop,Nat.add_zero,Array.getElem?_toList]; exact hcell
     cases hd:c.toList.drop (x.off + i) with
     | nil => rw [hd] at this; cases this
     | cons v l => rw [hd] at this; simp at this; simp [this]
   | _ => cases h0
end Go.V

namespace Go.V
open Go
def DenL:List Ty→Type
 | [] => Unit
 | t :: l => t.den×DenL l
def RelL (w:World) (S:Nat→Prop):(l:List Ty)→List Value→DenL l→Prop
 | [],cs,_ => cs = []
 | t :: l,cs,x => ∃ v m,cs = v :: m∧t.rel w S v x.1∧RelL w S l m x.2
mutual
def Ty.fit:(t:Ty)→t.den→Prop
 | .int k,n => (Lit.int k n).wf = true
 | .bool,_ => True
 | .str,s => ByteArray.size s≤maxLen
 | .sl r,xs => List.length (α:=r.den) xs≤maxLen∧∀ x∈(show List r.den from xs),Row.fit r x
def Row.fit:(r:Row)→r.den→Prop
 | .one t,x => Ty.fit t x
 | .cons t r,x => Ty.fit t x.1∧Row.fit r x.2
end
def FitL:(l:List Ty)→DenL l→Prop
 | [],_ => True
 | t :: l,x => t.fit x.1∧FitL l x.2
theorem row_one {w:World} {S:Nat→Prop} {t:Ty} {vs:List Value} {x:t.den}:Row.rel w S (.one t) vs x ↔ ∃ v,vs = [v]∧t.rel w S v x:=by exact iff_of_eq (Row.rel.eq_1 ..)
theorem row_cons {w:World} {S:Nat→Prop} {t:Ty} {r:Row} {vs:List Value} {x:t.den×r.den}:Row.rel w S (.cons t r) vs x ↔ ∃ v l,vs = v :: l∧t.rel w S v x.1∧r.rel w S l x.2:=by exact iff_of_eq (Row.rel.eq_2 ..)
theorem fit_one {t:Ty} {x:t.den}:Row.fit (.one t) x ↔ t.fit x:=by exact iff_of_eq (Row.fit.eq_1 ..)
theorem fit_cons {t:Ty} {r:Row} {x:t.den×r.den}:Row.fit (.cons t r) x ↔ t.fit x.1∧r.fit x.2:=by exact iff_of_eq (Row.fit.eq_2 ..)
theorem fit_sl {r:Row} {xs:List r.den}:Ty.fit (.sl r) xs ↔ xs.length≤maxLen∧∀ x∈xs,r.fit x:=by exact iff_of_eq (Ty.fit.eq_4 ..)
theorem fit_int {k:IntKind} {n:Int}:Ty.fit (.int k) n ↔ (Lit.int k n).wf = true:=by exact iff_of_eq (Ty.fit.eq_1 ..)
theorem fit_ints {k:IntKind} {z:List Int} (h:Ty.fit (.sl (.one (.int k))) z):∀ n∈z,(Lit.int k n).wf = true:=fun n hn => fit_int.1 (fit_one.1 ((fit_sl (r:=.one (.int k)) (xs:=z)).1 h |>.2 n hn))
theorem relL_append {w:World} {S:Nat→Prop}:∀ {l m:List Ty} {cs ds:List Value} {x:DenL l} {y:DenL m},RelL w S l cs x→FitL l x→RelL w S m ds y→FitL m y→∃ z:DenL (l ++ m),RelL w S (l ++ m) (cs ++ ds) z∧FitL (l ++ m) z
 | [],_,_,_,_,y,h,_,h2,h3 => by cases h; exact ⟨y,h2,h3⟩
 | t :: l,m,_,ds,x,y,h,hf,h2,h3 => by
  obtain ⟨v,n,rfl,h4,h5⟩:=h
  obtain ⟨z,g1,g2⟩:=relL_append h5 hf.2 h2 h3
  exact ⟨(x.1,z),⟨v,n ++ ds,rfl,h4,g1⟩,hf.1,g2⟩
theorem relL_row {w:World} {S:Nat→Prop}:∀ {l:List Ty} {r:Row} {cs:List Value} {x:DenL l},rowOf l = some r→RelL w S l cs x→FitL l x→∃ y:r.den,Row.rel w S r cs y∧r.fit y
 | [],_,_,_,h,_,_ => by cases h
 | [t],r,cs,x,h,h1,h2 => by
  cases h
  obtain ⟨v,m,rfl,h3,h4⟩:=h1
  cases h4
  obtain ⟨x1,x2⟩:=x
  have h3:t.rel w S v x1:=h3
  have h2:t.fit x1∧True:=h2
  exact ⟨x1,row_one.2 ⟨v,rfl,h3⟩,fit_one.2 h2.1⟩
 | t :: u :: l,r,cs,x,h,h1,h2 => by
  obtain ⟨q,hq,rfl⟩:=Option.map_eq_some_iff.1 h
  obtain ⟨v,m,rfl,h3,h4⟩:=h1
  obtain ⟨y,g1,g2⟩:=relL_row hq h4 h2.2
  obtain ⟨x1,x2⟩:=x
  exact ⟨(x1,y),row_cons.2 ⟨v,m,rfl,h3,g1⟩,fit_cons.2 ⟨h2.1,g2⟩⟩
theorem row_len_of:∀ {l:List Ty} {r:Row},rowOf l = some r→r.len = l.length
 | [],_,h => by cases h
 | [t],_,h => by cases h; rfl
 | t :: u :: l,_,h => by
  obtain ⟨q,hq,rfl⟩:=Option.map_eq_some_iff.1 h
  have:=row_len_of hq
  simp only [Row.len,this,List.length_cons]
def fieldsT (f:TypeId→Option (List Ty)) (n:TypeId→Nat):List Field→Nat→Option (List Ty×Nat)
 | [],k => some ([],k)
 | x :: l,k => if x.offset = k then (f x.type).bind fun a => if n x.type = a.length then (fieldsT f n l (k + a.length)).map fun b => (a ++ b.1,b.2) else none else none
def okT (P:Program):Nat→TypeId→Option (List Ty)
 | 0,_ => none
 | d + 1,t => match P.underlying t with
  | some (.int k) => some [.int k]
  | some .bool => some [.bool]
  | some .string => some [.str]
  | some (.slice e) => (okT P d e).bind fun a => if P.cellsOf e = a.length then (rowOf a).map fun r => [.sl r] else none
  | some (.struct fs) => (fieldsT (okT P d) P.cellsOf fs.toList 0).bind fun a => if P.cellsOf t = a.2 then some a.1 else none
  | _ => none
theorem cell_at {w:World} {a:Addr} {c:Array Value} {e:TypeId} {fz:Nat×Nat} (hs:a.spot = none) (hb:w.heap[a.block]? = some (.cells c e fz)) (k:Nat):w.cell? (a.add k) = c[a.off + k]?:=by
 unfold World.cell? Addr.add
 by_cases h:k = 0
 ·subst h; simp [hb,hs]
 ·simp [h,hb]
theorem cells_at {w:World} {a:Addr} {c:Array Value} {e:TypeId} {fz:Nat×Nat} (hs:a.spot = none) (hb:w.heap[a.block]? = some (.cells c e fz)) {k n:Nat} {cs:List Value} (h:w.cells? 0 (a.add k) n = some cs) :
  cs = (c.toList.drop (a.off + k)).take n:=by
 have hs':(a.add k).spot = none:=by unfold Addr.add; split <;> simp [hs]
 have hb':w.heap[(a.add k).block]? = some (.cells c e fz):=by unfold Addr.add; split <;> exact hb
 have ho:(a.add k).off = a.off + k:=by unfold Addr.add; split <;> simp_all
 unfold World.cells? at h
 rw [if_pos (Nat.zero_le _)] at h
 have key:∀ (n m:Nat) (cs:List Value),((List.range' m n).mapM fun i => w.cell? ((a.add k).add i)) = some cs→cs = (c.toList.drop (a.off + k + m)).take n:=by
  intro n
  induction n with
  | zero => intro m cs h; simp at h; subst h; simp
  | succ n ih =>
   intro m cs h
   rw [List.range'_succ] at h
   rw [List.mapM_cons] at h
   obtain ⟨v,hv,h⟩:=Option.bind_eq_some_iff.1 h
   obtain ⟨l,hl,h⟩:=Option.bind_eq_some_iff.1 h
   cases h
   rw [cell_at hs' hb',ho] at hv
   have:=ih (m + 1) l hl
   have hlt:=(Array.getElem?_eq_some_iff.1 hv).1
   have hd:c.toList.drop (a.off + k + m) = v :: c.toList.drop (a.off + k + m + 1):=by
    rw [List.drop_eq_getElem_cons (by simpa using hlt)]
    congr 1
    rw [Array.getElem_toList]; exact (Array.getElem?_eq_some_iff.1 hv).2
   rw [hd,List.take_succ_cons,this]; rfl
 have:=key n 0 cs (by rw [← List.range_eq_range']; exact h)
 simp only [Nat.add_zero] at this; exact this
theorem fields_open {w:World} {S:Nat→Prop} {f:TypeId→Option (List Ty)} {n:TypeId→Nat} {cs:List Value}:∀ {l:List Field} {k:Nat} {ts:List Ty} {m:Nat},fieldsT f n l k = some (ts,m)→m≤cs.length →
  (∀ x∈l,∀ us,f x.type = some us→∃ y:DenL us,RelL w S us ((cs.drop x.offset).take (n x.type)) y∧FitL us y)→k≤m∧∃ z:DenL ts,RelL w S ts ((cs.drop k).take (m - k)) z∧FitL ts z
 | [],k,ts,m,h,_,_ => by
  cases h
  exact ⟨Nat.le_refl _,(),by simp [RelL],trivial⟩
 | x :: l,k,ts,m,h,hm,hx => by
  unfold fieldsT at h
  split at h
  ·next ho =>
   obtain ⟨a,ha,h⟩:=Option.bind_eq_some_iff.1 h
   split at h
   ·next hn =>
    obtain ⟨b,hb,h⟩:=Option.map_eq_some_iff.1 h
    cases h
    obtain ⟨y,h1,h2⟩:=hx x (by simp) a ha
    obtain ⟨hk,z,h3,h4⟩:=fields_open hb hm fun y hy => hx y (by simp [hy])
    obtain ⟨q,g1,g2⟩:=relL_append h1 h2 h3 h4
    refine ⟨by omega,q,?_,g2⟩
    rw [ho,hn] at g1
    have:(cs.drop k).take (b.2 - k) = (cs.drop k).take a.length ++ (cs.drop (k + a.length)).take (b.2 - (k + a.length)):=by
     rw [show b.2 - k = a.length + (b.2 - (k + a.length)) by omega,List.take_add,List.drop_drop]
    rw [this]; exact g1
   ·cases h
  ·cases h
theorem trod_open {H:Type} {enc:TypeId×Value→H} {P:Program} {w:World} {spare:Nat→Bool} {held:Bool}:∀ (d:Nat) {t:TypeId} {ts:List Ty},okT P d t = some ts→∀ {fuel:Nat} {cs:List Value} {out:DataW H×List MemPlace},DataW.trod enc P w 0 spare held fuel t cs = some out →
  ∃ x:DenL ts,RelL w (fun b => b < w.heap.size) ts cs x∧FitL ts x:=by
 intro d
 induction d with
 | zero => intro t ts h; cases h
 | succ d ih =>
  intro t ts h fuel cs out ho
  unfold okT at h
  split at h
  ·next k hu =>
   cases h
   obtain ⟨n,rfl,_,hw⟩:=DataW.trod_int hu ho
   exact ⟨(n,()),⟨_,_,rfl,by unfold Ty.rel; rfl,rfl⟩,by unfold Ty.fit; exact hw,trivial⟩
  ·next hu =>
   cases h
   obtain ⟨b,rfl,_⟩:=DataW.trod_bool hu ho
   exact ⟨(b,()),⟨_,_,rfl,by unfold Ty.rel; rfl,rfl⟩,by unfold Ty.fit; trivial,trivial⟩
  ·next hu =>
   cases h
   obtain ⟨s,rfl,_,hs⟩:=DataW.trod_string hu ho
   exact ⟨(s,()),⟨_,_,rfl,by unfold Ty.rel; rfl,rfl⟩,by unfold Ty.fit; exact hs,trivial⟩
  ·next e hu =>
   obtain ⟨a,ha,h⟩:=Option.bind_eq_some_iff.1 h
   split at h
   ·next hn =>
    obtain ⟨r,hr,rfl⟩:=Option.map_eq_some_iff.1 h
    rcases DataW.trod_slice hu ho with ⟨rfl,_⟩ | ⟨ad,len,cap,elems,rest,n,rfl,rfl,_,_,hlc,hcm,hel,helem,_,_⟩
    ·refine ⟨(([]:List r.den),()),⟨_,_,rfl,?_,rfl⟩,?_,trivial⟩
     ·rw [Ty.rel_sl]; exact ⟨none,0,rfl,Nat.le_refl _,fun h => (h rfl).elim⟩
     ·unfold Ty.fit; exact ⟨Nat.zero_le _,fun x hx => by cases hx⟩
    ·have hrl:=row_len_of hr
     have hpos:1≤r.len:=by cases r <;> simp [Row.len]
     have each:∀ i,i < len→∃ y:r.den,∃ csi,w.cells? 0 (ad.add (i * r.len)) r.len = some csi∧Row.rel w (fun b => b < w.heap.size) r csi y∧r.fit y:=by
      intro i hi
      have h1:=helem i hi
      rw [List.getElem?_eq_getElem (by omega),hn,← hrl] at h1
      obtain ⟨csi,h2,h3⟩:=Option.bind_eq_some_iff.1 h1
      obtain ⟨x,g1,g2⟩:=ih ha h3
      obtain ⟨y,g3,g4⟩:=relL_row hr g1 g2
      exact ⟨y,csi,h2,g3,g4⟩
     by_cases hlen:len = 0
     ·subst hlen
      refine ⟨(([]:List r.den),()),⟨_,_,rfl,?_,rfl⟩,?_,trivial⟩
      ·rw [Ty.rel_sl]; exact ⟨some ad,cap,rfl,by simpa using hlc,fun h => (h rfl).elim⟩
      ·unfold Ty.fit; exact ⟨Nat.zero_le _,fun x hx => by cases hx⟩
     ·
      obtain ⟨y0,cs0,h0,_,_⟩:=each 0 (by omega)
      have hb:∃ c e fz,w.heap[ad.block]? = some (.cells c e fz)∧ad.spot = none:=by
       obtain ⟨m,hm⟩:∃ m,r.len = m + 1:=⟨r.len - 1,by omega⟩
       rw [Nat.zero_mul,hm] at h0
       have ha0:ad.add 0 = ad:=by simp [Addr.add]
       rw [ha0] at h0
       unfold World.cells? at h0
       rw [if_pos (Nat.zero_le _),List.range_succ_eq_map,List.mapM_cons] at h0
       obtain ⟨v,hv,_⟩:=Option.bind_eq_some_iff.1 h0
       rw [ha0] at hv
       unfold World.cell? at hv
       split at hv
       ·next c e fz hc =>
        refine ⟨c,e,fz,hc,?_⟩
        cases hsp:ad.spot with
        | none => rfl
        | some s => rw [hsp] at hv; cases hv
       ·cases hv
      obtain ⟨c,e',fz,hc,hsp⟩:=hb
      have ex:∃ ys:List r.den,ys.length = len∧∀ i (y:r.den),ys[i]? = some y→Row.rel w (fun b => b < w.heap.size) r ((c.toList.drop (ad.off + i * r.len)).take r.len) y∧r.fit y:=by
       have key:∀ k,k≤len→∃ ys:List r.den,ys.length = k∧∀ i (y:r.den),ys[i]? = some y→Row.rel w (fun b => b < w.heap.size) r ((c.toList.drop (ad.off + i * r.len)).take r.len) y∧r.fit y:=by
        intro k
        induction k with
        | zero => intro _; exact ⟨[],rfl,fun i y h => by simp at h⟩
        | succ k ihk =>
         intro hk
         obtain ⟨ys,h1,h2⟩:=ihk (by omega)
         obtain ⟨y,csi,h3,h4,h5⟩:=each k (by omega)
         refine ⟨ys ++ [y],by simp [h1],fun i z hz => ?_⟩
         rw [List.getElem?_append] at hz
         split at hz
         ·exact h2 i z hz
         ·next hi =>
          have hi0:i - ys.length = 0:=by
           have:=(List.getElem?_eq_some_iff.1 hz).1
           simp at this; omega
          rw [hi0] at hz
          simp at hz
          subst hz
          have:i = k:=by omega
          subst this
          rw [← cells_at hsp hc h3]
          exact ⟨h4,h5⟩
       exact key len (Nat.le_refl _)
      obtain ⟨ys,hyl,hys⟩:=ex
      refine ⟨(ys,()),⟨_,_,rfl,?_,rfl⟩,?_,trivial⟩
      ·rw [Ty.rel_sl]
       refine ⟨some ad,cap,by rw [hyl],by omega,fun _ => ⟨ad.block,ad.off,c,e',fz,?_,(Array.getElem?_eq_some_iff.1 hc).1,hc,fun i y hy => (hys i y hy).1⟩⟩
       cases ad; simp only at hsp; rw [hsp]
      ·unfold Ty.fit
       refine ⟨show ys.length≤maxLen by omega,fun x hx => ?_⟩
       obtain ⟨i,hi,rfl⟩:=List.getElem_of_mem hx
       exact (hys i _ (List.getElem?_eq_getElem hi)).2
   ·cases h
  ·next fs hu =>
   obtain ⟨a,ha,h⟩:=Option.bind_eq_some_iff.1 h
   split at h
   ·next hn =>
    cases h
    obtain ⟨xs,n,_,_,hl,hxl,hx⟩:=DataW.trod_struct hu ho
    obtain ⟨_,z,h1,h2⟩:=fields_open (w:=w) (S:=fun b => b < w.heap.size) (cs:=cs) (ts:=a.1) (m:=a.2) ha (by omega) fun f hf us hus => by
     obtain ⟨i,hi,rfl⟩:=List.getElem_of_mem hf
     have:=hx i fs[i] (by rw [Array.getElem?_eq_getElem (by simpa using hi)])
     rw [List.getElem?_eq_getElem (by rw [hxl]; simpa using hi)] at this
     exact ih hus this
    refine ⟨z,?_,h2⟩
    rw [List.drop_zero,Nat.sub_zero,← hn,← hl,List.take_length] at h1
    exact h1
   ·cases h
  ·cases h
theorem slice_open {H:Type} {enc:TypeId×Value→H} {P:Program} {w:World} {spare:Nat→Bool} {held:Bool} {d:Nat} {t:TypeId} {r:Row} (ht:okT P d t = some [.sl r]) {a:Option Addr} {len cap:Nat} {dt:DataW H} {p:List MemPlace}
  (h:DataW.Trod enc P w 0 spare held t (.slice a len cap) dt p):∃ xs:List r.den,ArgRel w (.sl r xs) (.slice a len cap)∧Ty.fit (.sl r) xs:=by
 obtain ⟨fuel,h⟩:=h
 obtain ⟨x,h1,h2⟩:=trod_open d ht h
 obtain ⟨v,m,h3,h4,h5⟩:=h1
 have hc:(Value.slice a len cap).cells.toList = [.slice a len cap]:=by simp [Value.cells]
 rw [hc] at h3
 cases h3
 obtain ⟨x1,x2⟩:=x
 have h4:Ty.rel w (fun b => b < w.heap.size) (.sl r) (.slice a len cap) x1:=h4
 have h6:SlRel w (fun b => b < w.heap.size) r (.slice a len cap) x1:=by exact (iff_of_eq (Ty.rel_sl w _ r _ x1)).1 h4
 exact ⟨x1,h6,h2.1⟩
end Go.V

namespace Go.V
section
variable {σ ρ:Type} {f:σ→Option (σ ⊕ ρ)}
theorem runs_one:∀ {n m:Nat} {s:σ} {r r':ρ},runs f n s = some r→runs f m s = some r'→r = r'
 | 0,_,_,_,_,h,_ => by cases h
 | _ + 1,0,_,_,_,_,h => by cases h
 | n + 1,m + 1,s,r,r',h,h' => by
  unfold runs at h h'
  cases hf:f s with
  | none => rw [hf] at h; cases h
  | some x =>
   rw [hf] at h h'
   cases x with
   | inl t => exact runs_one h h'
   | inr t => simp only at h h'; exact Option.some.inj (h.symm.trans h')
theorem loopL_of {n:Nat} {s:σ} {r:ρ} (h:runs f n s = some r):loopL f s = some r:=by
 unfold loopL
 have hx:∃ r n,runs f n s = some r:=⟨r,n,h⟩
 rw [dif_pos hx]
 obtain ⟨m,hm⟩:=hx.choose_spec
 rw [runs_one hm h]
theorem loopL_ind (I:σ→Prop) (m:σ→Nat) (Q:ρ→Prop) (h:∀ x,I x→∃ y,f x = some y∧match y with | .inl z => I z∧m z < m x | .inr z => Q z) :
  ∀ {s:σ},I s→∃ r,loopL f s = some r∧Q r:=by
 have key:∀ (k:Nat) (s:σ),m s = k→I s→∃ r n,runs f n s = some r∧Q r:=by
  intro k
  induction k using Nat.strongRecOn with
  | _ k ih =>
   intro s hk hs
   obtain ⟨y,h1,h2⟩:=h s hs
   cases y with
   | inl z =>
    obtain ⟨r,n,h3,h4⟩:=ih (m z) (by rw [← hk]; exact h2.2) z rfl h2.1
    refine ⟨r,n + 1,?_,h4⟩
    simp only [runs,h1]; exact h3
   | inr z => exact ⟨z,1,by simp only [runs,h1],h2⟩
 intro s hs
 obtain ⟨r,n,h1,h2⟩:=key (m s) s rfl hs
 exact ⟨r,loopL_of h1,h2⟩
theorem loopL_step {s:σ}:loopL f s = (f s).bind fun y => match y with | .inl z => loopL f z | .inr r => some r:=by
 cases hf:f s with
 | none =>
  unfold loopL
  rw [dif_neg]
  ·rfl
  ·rintro ⟨r,n,h⟩
   cases n with
   | zero => cases h
   | succ n => simp [runs,hf] at h
 | some y =>
  cases y with
  | inr r => exact loopL_of (n:=1) (by simp [runs,hf])
  | inl z =>
   show loopL f s = loopL f z
   cases hz:loopL f z with
   | some r =>
    unfold loopL at hz
    split at hz
    ·next h =>
     obtain ⟨n,hn⟩:=h.choose_spec
     cases hz
     exact loopL_of (n:=n + 1) (by simp only [runs,hf]; exact hn)
    ·cases hz
   | none =>
    unfold loopL
    rw [dif_neg]
    rintro ⟨r,n,h⟩
    cases n with
    | zero => cases h
    | succ n =>
     simp only [runs,hf] at h
     rw [loopL_of h] at hz; cases hz
end
end Go.V
namespace Go.V
open Go
theorem wrap64 {n:Int} (h1:-9223372036854775808≤n) (h2:n≤9223372036854775807):IntKind.wrap .i64 n = n:=by
 unfold IntKind.wrap
 have e1:(2 ^ IntKind.bits .i64:Int) = 18446744073709551616:=by decide
 have e2:(2 ^ (IntKind.bits .i64 - 1):Int) = 9223372036854775808:=by decide
 have e3:IntKind.signed .i64 = true:=rfl
 simp only [e1,e2,e3,Bool.true_and]
 split
 ·next h => simp only [decide_eq_true_eq] at h; omega
 ·next h => simp only [decide_eq_true_eq] at h; omega
end Go.V

