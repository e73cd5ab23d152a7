/-
  Plain Lean: what the functions of CutoffMeans make of all inputs, part 2.
-/
import Derived.Test.YtedhbknblmfgeaaLCutoffMeansa
set_option linter.all false
namespace Go.V
open Go
def SpanOk (k:Int×Int):Prop:=k = nothing∨(k.1≤k.2∧-1000000000≤k.1∧k.2≤1000000000)
def SaidOk (k:Nat) (m:MeasT):Prop:=(m.1 = -1∨m.1 = k)∧0≤m.2.1∧m.2.1≤19∧SpanOk m.2.2
theorem SaidOk.meas {k:Nat} {m:MeasT} (h:SaidOk k m):MeasOk m:=by
 obtain ⟨_,h1,h2,h3⟩:=h
 unfold MeasOk
 rcases h3 with h3 | ⟨h3,h4,h5⟩
 ·rw [h3]; simp only [nothing]; omega
 ·omega
section
variable {l:List Int} {ps:List PlaceT} {rs:List RoadT} {fs:List FanT} {ds:List DoorT} {ss:List SensorT} {ks:List CondT} {zs:List ZoneT} {es:List Int}
def WatchOk (w:WatchT):Prop:=0≤w.2.2∧w.2.2≤9∧-1≤w.2.1∧w.2.1≤w.2.2∧(w.2.1 ≠ -1→w.1 = true)
theorem watched_ok {i:Int} (h:Codes l i) (hl:ks.length≤100) :
  ∃ ws j,gcb l i ps rs fs ds ss ks zs es = some (ws,((l,j,()),()))∧Codes l j∧ws.length = ks.length∧∀ w∈ws,WatchOk w:=by
 obtain ⟨z,hz,ws,j,e,g1,g2,g3⟩:=loopL_up (f:=gcb_58F) (ks.length:Int)
  (fun k (b:Int×List WatchT) => ((l,b.1,()),b.2,(ks.length:Int),k,()))
  (fun k b => Codes l b.1∧0≤k∧k≤ks.length∧(b.2.length:Int) = k∧∀ w∈b.2,WatchOk w)
  (fun z => ∃ ws j,z = ((l,j,()),ws,())∧Codes l j∧ws.length = ks.length∧∀ w∈ws,WatchOk w) (by
   rintro k ⟨i',ws⟩ hk ⟨q1,q2,q3,q4,q5⟩
   simp only at q1 q4 q5
   obtain ⟨u1,s1,f1,p1,c1,d1⟩:=next_ok q1 (n:=3) (by omega)
   have hlen:decide ((ws.length + 1) * 24≤140737488355328) = true:=by rw [decide_eq_true_eq]; omega
   have snoc:∀ x,WatchOk x→∀ w∈ws ++ [x],WatchOk w:=by
    intro x hx w hw
    rcases List.mem_append.1 hw with hw | hw
    ·exact q5 w hw
    ·simp only [List.mem_singleton] at hw; subst hw; exact hx
   simp only [gcb_58F,gcb_58r,show decide (k < (ks.length:Int)) = true by simpa using hk,cond_true,gca,Option.bind_some,f1,gcb_7475,hlen,wrap64 (n:=k + 1) (by omega) (by omega)]
   cases u1 == 1
   ·simp only [cond_false]
    cases u1 == 2
    ·exact ⟨(s1,ws ++ [(true,-1,0)]),rfl,p1,by omega,by omega,by simp; omega,snoc _ ⟨by simp,by simp,by simp,by simp,fun _ => rfl⟩⟩
    ·obtain ⟨u2,s2,f2,p2,c2,d2⟩:=next_ok p1 (n:=9) (by omega)
     simp only [cond_true,f2,Option.bind_some]
     exact ⟨(s2,ws ++ [(true,u2,9)]),rfl,p2,by omega,by omega,by simp; omega,snoc _ ⟨by simp,by simp,by simp only; omega,by simp only; omega,fun _ => rfl⟩⟩
   ·exact ⟨(s1,ws ++ [(false,-1,0)]),rfl,p1,by omega,by omega,by simp; omega,snoc _ ⟨by simp,by simp,by simp,by simp,fun h => absurd rfl h⟩⟩)
  (by
   rintro k ⟨i',ws⟩ hk ⟨q1,q2,q3,q4,q5⟩
   simp only at q1 q4 q5
   exact ⟨((l,i',()),ws,()),by simp only [gcb_58F,gcb_58r,show decide (k < (ks.length:Int)) = false by simpa using hk,cond_false],ws,i',rfl,q1,by omega,q5⟩) 0 (i,[]) ⟨h,by omega,by omega,rfl,by simp⟩
 refine ⟨ws,j,?_,g1,g2,g3⟩
 have hz':gcb_58 l i [] ks.length 0 = some z:=hz
 unfold gcb
 rw [hz',e]; rfl
end
theorem step_fine {nr:Nat} {ss:List SensorT} {c:CondT} (hc:CondOk nr ss c) {w:WatchT} (hw:WatchOk w) (k:Int×Int) {t:Int} (h1:9≤t) (h2:t≤2147483648):(stepS c.2.2.2.1 c.2.2.2.2.1 c.2.2.2.2.2 w k t).2 = 0:=by
 obtain ⟨w1,w2,w3,w4,w5⟩:=hw
 unfold stepS
 rw [hc.level,show (decide (t < 0) || (decide (t > 2147483648) || decide (t < w.2.2))) = false by simp only [Bool.or_eq_false_iff,decide_eq_false_iff_not]; omega]
 have h5:(w.2.1 != -1 && !w.1) = false:=by
  by_cases h:w.2.1 = -1
  ·simp [h]
  ·simp [w5 h]
 rw [show (decide (w.2.2 < 0) || (decide (w.2.2 > 2147483648) || (decide (w.2.1 < -1) || (decide (w.2.1 > w.2.2) || (w.2.1 != -1 && !w.1))))) = false by
  rw [h5]; simp only [Bool.or_eq_false_iff,decide_eq_false_iff_not,Bool.or_false]; omega]
 simp only [bne_self_eq_false,cond_false]
 cases aboveS k c.2.2.2.1 != -1 <;> cases w.1 <;> cases decide (k.2 > c.2.2.2.2.1) <;> cases decide (t - (bif decide (w.2.1 < 0) then t else w.2.1) ≥ c.2.2.2.2.2) <;> rfl
theorem one_fine {nr:Nat} {ss:List SensorT} {c:CondT} (hc:CondOk nr ss c) {w:WatchT} (hw:WatchOk w) (ms:List MeasT) (fl:List (Int×Int)) {t:Int} (h1:9≤t) (h2:t≤2147483648):(oneS ss ms fl t c w).2.2 = 0:=by
 unfold oneS
 simp only
 rw [step_fine hc hw _ h1 h2]
 cases c.1 == 1 <;> cases c.1 == 2 <;> cases c.1 == 3 <;> cases c.1 == 4 <;> cases c.1 == 5 <;> rfl
theorem vals_fine {nr:Nat} {ss:List SensorT} {cs:List CondT} (hc:∀ c∈cs,CondOk nr ss c) {ws:List WatchT} (hw:∀ w∈ws,WatchOk w) (ms:List MeasT) (fl:List (Int×Int)) {t:Int} (h1:9≤t) (h2:t≤2147483648) :
  valsS (oneS ss ms fl t) cs ws = (List.zipWith (fun c w => (oneS ss ms fl t c w).1) cs ws,List.zipWith (fun c w => (oneS ss ms fl t c w).2.1) cs ws,0):=by
 unfold valsS
 have:errL (errAt (oneS ss ms fl t) ws) cs 0 = 0:=errL_all fun i c hci => by
  unfold errAt
  cases hwi:ws[i]? with
  | none => rfl
  | some w => exact one_fine (hc c (List.mem_of_getElem? hci)) (hw w (List.mem_of_getElem? hwi)) ms fl h1 h2
 rw [this]; rfl
theorem SiteOk.values {ps:List PlaceT} {rs:List RoadT} {fs:List FanT} {ds:List DoorT} {ss:List SensorT} {cs:List CondT} {zs:List ZoneT} {es tf td pr fl:List Int} (S:SiteOk ps rs fs ds ss cs zs es tf td pr fl)
  {ms:List MeasT} (hm:∀ (k:Nat) (m:MeasT),ms[k]? = some m→SaidOk k m) (hml:ms.length = ss.length) {ws:List WatchT} (hwl:ws.length = cs.length) (hw:∀ w∈ws,WatchOk w) {us:List (Int×Int)} (hul:us.length = rs.length) {t:Int} (h1:9≤t) (h2:t≤2147483648) :
  gdc ps rs fs ds ss cs zs es ms ws us t = some ((List.zipWith (fun c w => (oneS ss ms us t c w).1) cs ws,List.zipWith (fun c w => (oneS ss ms us t c w).2.1) cs ws,0,()),()):=by
 rw [values_eq S.big (fun m hmm => by
  obtain ⟨k,hk,rfl⟩:=List.getElem_of_mem hmm
  exact (hm k _ (List.getElem?_eq_getElem hk)).meas) ws us t,S.check]
 unfold valuesS
 rw [show ((ms.length:Int) != (ss.length:Int) || ((ws.length:Int) != (cs.length:Int) || (us.length:Int) != (rs.length:Int))) = false by simp only [Bool.or_eq_false_iff,bne_eq_false_iff_eq]; omega,
  show (decide (t < 0) || decide (t > 2147483648)) = false by simp only [Bool.or_eq_false_iff,decide_eq_false_iff_not]; omega,vals_fine S.con hw ms us h1 h2]
 rfl
end Go.V

namespace Go.V
open Go
theorem line_anti {p r:Int×Int} {q q':Int} (h:q≤q') (hp:p.1 < r.1) (h3:r.2≤p.2):(lineS p r q').1≤(lineS p r q).1∧(lineS p r q').2≤(lineS p r q).2:=by
 unfold lineS
 simp only
 have hu:(r.2 - p.2) * (q' - p.1)≤(r.2 - p.2) * (q - p.1):=Int.mul_le_mul_of_nonpos_left (by omega) (by omega)
 generalize (r.2 - p.2) * (q' - p.1) = a at *
 generalize (r.2 - p.2) * (q - p.1) = b at *
 have h1:a / (r.1 - p.1)≤b / (r.1 - p.1):=Int.ediv_le_ediv (by omega) hu
 have h2:(-b) / (r.1 - p.1)≤(-a) / (r.1 - p.1):=Int.ediv_le_ediv (by omega) (by omega)
 omega
theorem inner_top:∀ {c:List (Int×Int)},Falls c→∀ {a:Int×Int} (q:Int),c[0]? = some a→(innerS c q).1≤a.2∧(innerS c q).2≤a.2
 | [p],_,a,q,h => by simp at h; subst h; unfold innerS; simp
 | p :: r :: l,hf,a,q,h => by
  simp at h; subst h
  unfold innerS
  by_cases h1:q≤p.1
  ·rw [if_pos h1]; simp
  ·rw [if_neg h1]
   by_cases h2:q < r.1
   ·rw [if_pos h2]
    have:=line_range (p:=p) (r:=r) (q:=q) (by omega) h2 hf.2.1
    omega
   ·rw [if_neg h2]
    have:=inner_top (c:=r :: l) hf.2.2 q (a:=r) (by simp)
    have:=hf.2.1
    omega
theorem inner_anti:∀ {c:List (Int×Int)},Falls c→∀ {q q':Int},q≤q'→(innerS c q').1≤(innerS c q).1∧(innerS c q').2≤(innerS c q).2
 | [],_,q,q',_ => by simp [innerS]
 | [p],_,q,q',_ => by simp [innerS]
 | p :: r :: l,hf,q,q',h => by
  by_cases h1:q≤p.1
  ·have e:innerS (p :: r :: l) q = (p.2,p.2):=by unfold innerS; rw [if_pos h1]
   have:=inner_top hf (a:=p) q' (by simp)
   rw [e]; exact this
  ·have hpr:=hf.1
   by_cases h2:q < r.1
   ·have e:innerS (p :: r :: l) q = lineS p r q:=by unfold innerS; rw [if_neg h1,if_pos h2]
    by_cases h3:q' < r.1
    ·have e':innerS (p :: r :: l) q' = lineS p r q':=by unfold innerS; rw [if_neg (by omega),if_pos h3]
     rw [e,e']; exact line_anti h hpr hf.2.1
    ·have e':innerS (p :: r :: l) q' = innerS (r :: l) q':=by
      show (if q'≤p.1 then _ else if q' < r.1 then _ else innerS (r :: l) q') = _
      rw [if_neg (by omega),if_neg h3]
     have a1:=line_range (p:=p) (r:=r) (q:=q) (by omega) h2 hf.2.1
     have a2:=inner_top (c:=r :: l) hf.2.2 q' (a:=r) (by simp)
     rw [e,e']; omega
   ·have e:innerS (p :: r :: l) q = innerS (r :: l) q:=by
     show (if q≤p.1 then _ else if q < r.1 then _ else innerS (r :: l) q) = _
     rw [if_neg h1,if_neg h2]
    have e':innerS (p :: r :: l) q' = innerS (r :: l) q':=by
     show (if q'≤p.1 then _ else if q' < r.1 then _ else innerS (r :: l) q') = _
     rw [if_neg (by omega),if_neg (by omega)]
    rw [e,e']; exact inner_anti hf.2.2 h
theorem along_anti {c:List (Int×Int)} (hf:Falls c) (b:Bool) {q q':Int} (h:q≤q'):(alongS c b q').1≤(alongS c b q).1∧(alongS c b q').2≤(alongS c b q).2:=by
 unfold alongS
 cases b
 ·simpa using inner_anti hf h
 ·have:=inner_anti hf (q:=-q') (q':=-q) (by omega)
  simp only [if_true]; omega
theorem state_anti {f:FanT} (hf:Falls f.2.2.2) (st:Int) {q q':Int} (h:q≤q'):(stateS f st q').1≤(stateS f st q).1∧(stateS f st q').2≤(stateS f st q).2:=by
 unfold stateS
 split
 ·simp
 ·split
  ·exact along_anti hf _ h
  ·split
   ·exact along_anti hf _ h
   ·have a:=along_anti hf false h
    have b:=along_anti hf true h
    simp only; omega
theorem state_wide {f:FanT} {m:Int} (hf:Falls f.2.2.2) (h1:1≤f.2.2.2.length) (hp:∀ p∈f.2.2.2,0≤p.2∧p.2≤m) {st u:Int} (hs:0≤st∧st≤2) (hu:u = st∨u = -1) (q:Int) :
  (stateS f u q).1≤(stateS f st q).1∧(stateS f st q).1≤(stateS f u q).2:=by
 have a0:=along_range hf h1 hp false q
 have a1:=along_range hf h1 hp true q
 have hst:(stateS f st q).1≤(stateS f st q).2:=(state_range hf h1 hp st q).2.1
 rcases hu with rfl | rfl
 ·omega
 ·have e:stateS f (-1) q = (min (min (alongS f.2.2.2 false q).1 (alongS f.2.2.2 true q).1) 0,max (max (alongS f.2.2.2 false q).2 (alongS f.2.2.2 true q).2) 0):=by
   unfold stateS; simp
  rw [e]
  unfold stateS
  split
  ·simp only; omega
  ·split
   ·cases f.2.1 <;> simp only <;> omega
   ·split
    ·cases f.2.1 <;> simp only [Bool.not_true,Bool.not_false] <;> omega
    ·omega
theorem rest_wide {d:DoorT} {t u:Int} (ht:0≤t∧t < d.2.2.length) (hu:u = t∨u = -1):(restS d u).1≤(restS d t).1∧(restS d t).1≤(restS d u).2:=by
 have e:restS d t = ((d.2.2[t.toNat]?).getD 0,(d.2.2[t.toNat]?).getD 0):=by
  unfold restS; rw [if_neg (by omega),if_pos ht.1]
 rcases hu with rfl | rfl
 ·rw [e]; simp
 ·obtain ⟨x,hx⟩:=get_of_lt (l:=d.2.2) (k:=t.toNat) (by omega)
  have e2:restS d (-1) = (d.2.2.foldl min ((d.2.2[0]?).getD 0),d.2.2.foldl max ((d.2.2[0]?).getD 0)):=by
   unfold restS; rw [if_neg (by omega),if_neg (by omega)]
  rw [e,e2,hx]
  exact ⟨(foldl_min).2 x (List.mem_of_getElem? hx),(foldl_max).2 x (List.mem_of_getElem? hx)⟩
theorem accS_le {α:Type} {c c':α→Int→Int}:∀ {l:List α} {t t':List Int},t'.length = t.length→(∀ (k:Nat) x s s',l[k]? = some x→t[k]? = some s→t'[k]? = some s'→c x s≤c' x s')→accS c l t≤accS c' l t'
 | [],_,_,_,_ => by simp [accS]
 | _ :: _,[],[],_,_ => by simp [accS]
 | a :: l,s :: t,s' :: t',hl,h => by
  have h1:=h 0 a s s' (by simp) (by simp) (by simp)
  have h2:=accS_le (l:=l) (t:=t) (t':=t') (by simpa using hl) fun k x s s' a b c => h (k + 1) x s s' (by simpa using a) (by simpa using b) (by simpa using c)
  simp only [accS]; omega
def doorH (j:Int) (d:DoorT) (t:Int):Int:=if d.1 = j then (restS d t).2 else 0
def fanH (j q:Int) (f:FanT) (t:Int):Int:=if f.1 = j then (stateS f t q).2 else 0
def innLo (fs:List FanT) (ds:List DoorT) (tf td:List Int) (j:Int) (r:RoadT) (q:Int):Int :=
 (if q < 0 then r.2.2.2.2.2.2.2.1 + accS (doorH j) ds td else r.2.2.2.2.2.2.1 + accS (doorC j) ds td) * max q (-q) * q - r.2.2.2.2.2.2.2.2.2 - accS (fanH j q) fs tf
def innHi (fs:List FanT) (ds:List DoorT) (tf td:List Int) (j:Int) (r:RoadT) (q:Int):Int :=
 (if q < 0 then r.2.2.2.2.2.2.1 + accS (doorC j) ds td else r.2.2.2.2.2.2.2.1 + accS (doorH j) ds td) * max q (-q) * q - r.2.2.2.2.2.2.2.2.1 - accS (fanC j q) fs tf
theorem sq_lt {b x y:Int} (hb:1≤b) (hx:0≤x) (h:x < y):b * x * x < b * y * y:=by
 have h1:b * x * x≤b * y * x:=Int.mul_le_mul_of_nonneg_right (Int.mul_le_mul_of_nonneg_left (by omega) (by omega)) hx
 have h2:0 < b * y:=Int.mul_pos (by omega) (by omega)
 have h3:b * y * x < b * y * y:=Int.mul_lt_mul_of_pos_left h h2
 omega
theorem sq_mono {a b q q':Int} (ha:1≤a) (hb:1≤b) (h:q < q'):(if q < 0 then a else b) * max q (-q) * q < (if q' < 0 then a else b) * max q' (-q') * q':=by
 by_cases h1:q < 0
 ·rw [if_pos h1,show max q (-q) = -q by omega]
  by_cases h2:q' < 0
  ·rw [if_pos h2,show max q' (-q') = -q' by omega]
   have:=sq_lt (b:=a) (x:=-q') (y:=-q) ha (by omega) (by omega)
   have e1:a * (-q) * (-q) = -(a * (-q) * q):=by rw [Int.mul_neg]
   have e2:a * (-q') * (-q') = -(a * (-q') * q'):=by rw [Int.mul_neg]
   omega
  ·rw [if_neg h2,show max q' (-q') = q' by omega]
   have h3:0 < a * (-q):=Int.mul_pos (by omega) (by omega)
   have h4:a * (-q) * q < 0:=Int.mul_neg_of_pos_of_neg h3 h1
   have h5:0≤b * q' * q':=Int.mul_nonneg (Int.mul_nonneg (by omega) (by omega)) (by omega)
   omega
 ·rw [if_neg h1,if_neg (show ¬ q' < 0 by omega),show max q (-q) = q by omega,show max q' (-q') = q' by omega]
  exact sq_lt hb (by omega) h
section
variable {ps:List PlaceT} {rs:List RoadT} {fs:List FanT} {ds:List DoorT} {tf td tf' td' pr fl:List Int}
structure AirOk (ps:List PlaceT) (rs:List RoadT) (fs:List FanT) (ds:List DoorT) (tf td tf' td' pr fl:List Int):Prop where
 m:MadeOk ps rs fs ds tf td pr fl
 f:DoubtOk tf tf'
 d:DoubtOk td td'
theorem AirOk.doorC (A:AirOk ps rs fs ds tf td tf' td' pr fl) (j:Int):∀ d∈ds,∀ s,0≤doorC j d s∧doorC j d s≤900:=by
 intro d hd s
 have:=rest_range (m:=900) (by omega) (A.m.D.each d hd).2.2.2.2.2.1 s
 unfold V.doorC
 split <;> omega
theorem AirOk.doorH (A:AirOk ps rs fs ds tf td tf' td' pr fl) (j:Int):∀ d∈ds,∀ s,0≤doorH j d s∧doorH j d s≤900:=by
 intro d hd s
 have:=rest_range (m:=900) (by omega) (A.m.D.each d hd).2.2.2.2.2.1 s
 unfold V.doorH
 split <;> omega
theorem AirOk.curve (A:AirOk ps rs fs ds tf td tf' td' pr fl) {f:FanT} (h:f∈fs):Falls f.2.2.2∧1≤f.2.2.2.length∧∀ p∈f.2.2.2,0≤p.2∧p.2≤3000:=by
 obtain ⟨_,_,hc⟩:=A.m.F.each f h
 exact ⟨hc.2.2.2,hc.1,fun p hp => by have:=hc.2.2.1 p hp; omega⟩
theorem AirOk.fanC (A:AirOk ps rs fs ds tf td tf' td' pr fl) (j q:Int):∀ f∈fs,∀ s,-3000≤fanC j q f s∧fanC j q f s≤3000:=by
 intro f hf s
 obtain ⟨h1,h2,h3⟩:=A.curve hf
 have:=state_range (f:=f) (m:=3000) h1 h2 h3 s q
 unfold V.fanC
 split <;> omega
theorem AirOk.fanH (A:AirOk ps rs fs ds tf td tf' td' pr fl) (j q:Int):∀ f∈fs,∀ s,-3000≤fanH j q f s∧fanH j q f s≤3000:=by
 intro f hf s
 obtain ⟨h1,h2,h3⟩:=A.curve hf
 have:=state_range (f:=f) (m:=3000) h1 h2 h3 s q
 unfold V.fanH
 split <;> omega
theorem AirOk.doors (A:AirOk ps rs fs ds tf td tf' td' pr fl) (j:Int) (t:List Int):0≤accS (V.doorC j) ds t∧accS (V.doorC j) ds t≤1800∧0≤accS (V.doorH j) ds t∧accS (V.doorH j) ds t≤1800:=by
 have h1:=accS_range (c:=V.doorC j) (lo:=0) (hi:=900) (by omega) (by omega) (l:=ds) (t:=t) fun x hx => A.doorC j x hx
 have h2:=accS_range (c:=V.doorH j) (lo:=0) (hi:=900) (by omega) (by omega) (l:=ds) (t:=t) fun x hx => A.doorH j x hx
 have:=A.m.D.len
 omega
theorem AirOk.hi_lt (A:AirOk ps rs fs ds tf td tf' td' pr fl) (j:Int) {r:RoadT} (hr:r∈rs) (u v:List Int) {q q':Int} (h:q < q'):innHi fs ds u v j r q < innHi fs ds u v j r q':=by
 have hro:=(A.m.road r hr).2.2.2.2.2
 unfold RoadOk at hro
 have hd:=A.doors j v
 have h1:=sq_mono (a:=r.2.2.2.2.2.2.1 + accS (V.doorC j) ds v) (b:=r.2.2.2.2.2.2.2.1 + accS (V.doorH j) ds v) (by omega) (by omega) h
 have h2:accS (V.fanC j q') fs u≤accS (V.fanC j q) fs u:=accS_le rfl fun k x s s' a b c => by
  have:s = s':=Option.some.inj (b.symm.trans c)
  subst this
  have:=state_anti (A.curve (List.mem_of_getElem? a)).1 s (show q≤q' by omega)
  unfold V.fanC
  split <;> omega
 unfold innHi; omega
theorem AirOk.lo_lt (A:AirOk ps rs fs ds tf td tf' td' pr fl) (j:Int) {r:RoadT} (hr:r∈rs) (u v:List Int) {q q':Int} (h:q < q'):innLo fs ds u v j r q < innLo fs ds u v j r q':=by
 have hro:=(A.m.road r hr).2.2.2.2.2
 unfold RoadOk at hro
 have hd:=A.doors j v
 have h1:=sq_mono (a:=r.2.2.2.2.2.2.2.1 + accS (V.doorH j) ds v) (b:=r.2.2.2.2.2.2.1 + accS (V.doorC j) ds v) (by omega) (by omega) h
 have h2:accS (V.fanH j q') fs u≤accS (V.fanH j q) fs u:=accS_le rfl fun k x s s' a b c => by
  have:s = s':=Option.some.inj (b.symm.trans c)
  subst this
  have:=state_anti (A.curve (List.mem_of_getElem? a)).1 s (show q≤q' by omega)
  unfold V.fanH
  split <;> omega
 unfold innLo; omega
theorem AirOk.fits (A:AirOk ps rs fs ds tf td tf' td' pr fl) {k:Nat} {r:RoadT} {q:Int} (hr:rs[k]? = some r) (hq:fl[k]? = some q) :
  innLo fs ds tf' td' k r q≤(pr[r.1.toNat]?).getD 0 - (pr[r.2.1.toNat]?).getD 0∧(pr[r.1.toNat]?).getD 0 - (pr[r.2.1.toNat]?).getD 0≤innHi fs ds tf' td' k r q:=by
 obtain ⟨ρ,h1,h2,h3,h4⟩:=A.m.fit k r q hr hq
 have hdC:accS (V.doorC k) ds td'≤accS (V.doorC k) ds td:=accS_le A.d.1.symm fun i x s s' a b c => by
  have hst:=A.m.D.st i x s' a c
  have:=rest_wide hst (A.d.2 i s' s c b)
  unfold V.doorC
  split <;> omega
 have hdH:accS (V.doorC k) ds td≤accS (V.doorH k) ds td':=accS_le A.d.1 fun i x s s' a b c => by
  have hst:=A.m.D.st i x s a b
  have:=rest_wide hst (A.d.2 i s s' b c)
  unfold V.doorC V.doorH
  split <;> omega
 have hfC:accS (V.fanC k q) fs tf'≤accS (V.fanC k q) fs tf:=accS_le A.f.1.symm fun i x s s' a b c => by
  obtain ⟨g1,g2,g3⟩:=A.curve (List.mem_of_getElem? a)
  have:=state_wide g1 g2 g3 (A.m.F.st s' (List.mem_of_getElem? c)) (A.f.2 i s' s c b) q
  unfold V.fanC
  split <;> omega
 have hfH:accS (V.fanC k q) fs tf≤accS (V.fanH k q) fs tf':=accS_le A.f.1 fun i x s s' a b c => by
  obtain ⟨g1,g2,g3⟩:=A.curve (List.mem_of_getElem? a)
  have:=state_wide g1 g2 g3 (A.m.F.st s (List.mem_of_getElem? b)) (A.f.2 i s s' b c) q
  unfold V.fanC V.fanH
  split <;> omega
 unfold liftS at h3 h4
 have key:∀ {a b:Int},a≤b→(if q < 0 then b else a) * max q (-q) * q≤a * max q (-q) * q∧b * max q (-q) * q≤(if q < 0 then a else b) * max q (-q) * q:=by
  intro a b hab
  have hm:0≤max q (-q):=by omega
  have hmm:a * max q (-q)≤b * max q (-q):=Int.mul_le_mul_of_nonneg_right hab hm
  by_cases hn:q < 0
  ·rw [if_pos hn,if_pos hn]
   have:b * max q (-q) * q≤a * max q (-q) * q:=Int.mul_le_mul_of_nonpos_right hmm (by omega)
   omega
  ·rw [if_neg hn,if_neg hn]
   have:a * max q (-q) * q≤b * max q (-q) * q:=Int.mul_le_mul_of_nonneg_right hmm (by omega)
   omega
 have mono:∀ {a b:Int},a≤b→0≤q→a * max q (-q) * q≤b * max q (-q) * q:=fun hab h0 => Int.mul_le_mul_of_nonneg_right (Int.mul_le_mul_of_nonneg_right hab (by omega)) h0
 have anti:∀ {a b:Int},a≤b→q < 0→b * max q (-q) * q≤a * max q (-q) * q:=fun hab h0 => Int.mul_le_mul_of_nonpos_right (Int.mul_le_mul_of_nonneg_right hab (by omega)) (by omega)
 unfold innLo innHi
 by_cases hn:q < 0
 ·rw [if_pos hn,if_pos hn]
  have a1:=anti (a:=ρ + accS (V.doorC k) ds td) (b:=r.2.2.2.2.2.2.2.1 + accS (V.doorH k) ds td') (by omega) hn
  have a2:=anti (a:=r.2.2.2.2.2.2.1 + accS (V.doorC k) ds td') (b:=ρ + accS (V.doorC k) ds td) (by omega) hn
  omega
 ·rw [if_neg hn,if_neg hn]
  have a1:=mono (a:=r.2.2.2.2.2.2.1 + accS (V.doorC k) ds td') (b:=ρ + accS (V.doorC k) ds td) (by omega) (by omega)
  have a2:=mono (a:=ρ + accS (V.doorC k) ds td) (b:=r.2.2.2.2.2.2.2.1 + accS (V.doorH k) ds td') (by omega) (by omega)
  omega
end
end Go.V

namespace Go.V
open Go
section
variable {ps:List PlaceT} {rs:List RoadT} {fs:List FanT} {ds:List DoorT} {tf td tf' td' pr fl:List Int}
theorem AirOk.big (A:AirOk ps rs fs ds tf td tf' td' pr fl):AirBig ps rs fs ds:=by
 have h1:=A.m.np
 have h2:=A.m.nr
 have h3:=A.m.F.len
 have h4:=A.m.D.len
 refine ⟨?_,?_,?_,?_,fun x hx => ?_,fun x hx => ?_⟩ <;> unfold Big
 ·omega
 ·omega
 ·omega
 ·omega
 ·have:=(A.m.F.each x hx).2.2.2.1; omega
 ·have:=(A.m.D.each x hx).2.2.2.2.1; omega
theorem AirOk.check (A:AirOk ps rs fs ds tf td tf' td' pr fl):gbb ps rs fs ds = some (0,()):=by
 rw [refAir_eq A.big,A.m.check]
theorem AirOk.right (A:AirOk ps rs fs ds tf td tf' td' pr fl):gbc ps rs fs ds tf' td' = some (true,()):=by
 have hfl:=A.m.F.len
 have hfs:=A.m.F.same
 have hdl:=A.m.D.len
 have hds:=A.m.D.same
 have hf':=A.f.1
 have hd':=A.d.1
 have l1:gbc_58 ps rs fs ds tf' td' 0 = some (.inr ((ps,rs,fs,ds,()),(tf',td',()),())):=by
  obtain ⟨z,hz,hq⟩:=loopL_inv (f:=gbc_58F) tf' (fun k (_:Unit) => ((ps,rs,fs,ds,()),(tf',td',()),(k:Int),())) (fun _ _ => True) (fun z => z = .inr ((ps,rs,fs,ds,()),(tf',td',()),())) (by
    intro k t b ht _
    left
    have hk:=lt_of_get ht
    obtain ⟨s,hs⟩:=get_of_lt (l:=tf) (k:=k) (by omega)
    have hst:=A.m.F.st s (List.mem_of_getElem? hs)
    have htt:=A.f.2 k s t hs ht
    refine ⟨(),?_,trivial⟩
    simp only [gbc_58F,gbc_58r,show decide ((k:Int) < (tf'.length:Int)) = true by rw [decide_eq_true_eq]; omega,cond_true,idx_get ht,Option.bind_some,show decide (t < -1) = false by rw [decide_eq_false_iff_not]; omega,show decide (t > 2) = false by rw [decide_eq_false_iff_not]; omega,cond_false,wrap_succ hk (show tf'.length≤Big by simp [Big]; omega)]; rfl)
   (fun b _ => ⟨_,by simp only [gbc_58F,gbc_58r,show decide ((tf'.length:Int) < (tf'.length:Int)) = false by simp,cond_false],rfl⟩) () trivial
  rw [← hq]; exact hz
 have l2:gbc_122 ps rs fs ds tf' td' 0 = some (.inr ()):=by
  obtain ⟨z,hz,hq⟩:=loopL_inv (f:=gbc_122F) td' (fun k (_:Unit) => ((ps,rs,fs,ds,()),(tf',td',()),(k:Int),())) (fun _ _ => True) (fun z => z = .inr ()) (by
    intro k t b ht _
    left
    have hk:=lt_of_get ht
    obtain ⟨s,hs⟩:=get_of_lt (l:=td) (k:=k) (by omega)
    obtain ⟨d,hd⟩:=get_of_lt (l:=ds) (k:=k) (by omega)
    have hst:=A.m.D.st k d s hd hs
    have htt:=A.d.2 k s t hs ht
    refine ⟨(),?_,trivial⟩
    simp only [gbc_122F,gbc_122r,show decide ((k:Int) < (td'.length:Int)) = true by rw [decide_eq_true_eq]; omega,cond_true,idx_get ht,idx_get hd,Option.bind_some,show decide (t < -1) = false by rw [decide_eq_false_iff_not]; omega,show decide (t ≥ (d.2.2.length:Int)) = false by rw [decide_eq_false_iff_not]; omega,cond_false,wrap_succ hk (show td'.length≤Big by simp [Big]; omega)]; rfl)
   (fun b _ => ⟨_,by simp only [gbc_122F,gbc_122r,show decide ((td'.length:Int) < (td'.length:Int)) = false by simp,cond_false],rfl⟩) () trivial
  rw [← hq]; exact hz
 simp only [gbc,A.check,Option.bind_some,bne_self_eq_false,cond_false,show ((tf'.length:Int) != (fs.length:Int)) = false by simp; omega,show ((td'.length:Int) != (ds.length:Int)) = false by simp; omega,l1,sumElim_inr,l2]
theorem AirOk.open (A:AirOk ps rs fs ds tf td tf' td' pr fl) {k:Nat} {r:RoadT} (hr:rs[k]? = some r):gbd ps rs fs ds tf' td' k = some (!r.2.2.2.2.2.1,()):=by
 have hk:=lt_of_get hr
 simp only [gbd,A.right,Option.bind_some,cond_true,show decide ((k:Int) ≥ 0) = true by simp,show decide ((k:Int) < (rs.length:Int)) = true by rw [decide_eq_true_eq]; omega,idx_get hr]
theorem inner_doors (A:AirOk ps rs fs ds tf td tf' td' pr fl) (j:Nat) (q a b:Int) (r:RoadT) (u v:Int) (hu:0≤u∧u≤22) (hv:0≤v∧v≤22) :
  gbe_122 j q ps rs fs ds tf' td' a b r.1 r.2.1 r.2.2.1 r.2.2.2.1 r.2.2.2.2.1 r.2.2.2.2.2.1 r.2.2.2.2.2.2.1 r.2.2.2.2.2.2.2.1 r.2.2.2.2.2.2.2.2.1 r.2.2.2.2.2.2.2.2.2 u v 0 =
   some ((j:Int),q,(ps,rs,fs,ds,()),(tf',td',()),(a,b,()),(r.1,r.2.1,r.2.2.1,r.2.2.2.1,r.2.2.2.2.1,r.2.2.2.2.2.1,r.2.2.2.2.2.2.1,r.2.2.2.2.2.2.2.1,r.2.2.2.2.2.2.2.2.1,r.2.2.2.2.2.2.2.2.2,()),(u + accS (V.doorC j) ds td',v + accS (V.doorH j) ds td',()),()):=by
 have hdl:=A.m.D.len
 have hds:=A.m.D.same
 have hd':=A.d.1
 obtain ⟨z,hz,hq⟩:=loopL_inv (f:=gbe_122F) ds
  (fun k (x:Int×Int) => ((j:Int),q,(ps,rs,fs,ds,()),(tf',td',()),(a,b,()),(r.1,r.2.1,r.2.2.1,r.2.2.2.1,r.2.2.2.2.1,r.2.2.2.2.2.1,r.2.2.2.2.2.2.1,r.2.2.2.2.2.2.2.1,r.2.2.2.2.2.2.2.2.1,r.2.2.2.2.2.2.2.2.2,()),(x.1,x.2,()),(k:Int),()))
  (fun k x => x.1 = u + accS (V.doorC j) (ds.take k) (td'.take k)∧x.2 = v + accS (V.doorH j) (ds.take k) (td'.take k))
  (fun z => z = ((j:Int),q,(ps,rs,fs,ds,()),(tf',td',()),(a,b,()),(r.1,r.2.1,r.2.2.1,r.2.2.2.1,r.2.2.2.2.1,r.2.2.2.2.2.1,r.2.2.2.2.2.2.1,r.2.2.2.2.2.2.2.1,r.2.2.2.2.2.2.2.2.1,r.2.2.2.2.2.2.2.2.2,()),(u + accS (V.doorC j) ds td',v + accS (V.doorH j) ds td',()),())) (by
   rintro k d ⟨x,y⟩ hd ⟨hx,hy⟩
   left
   simp only at hx hy
   have hk:=lt_of_get hd
   obtain ⟨t,ht⟩:=get_of_lt (l:=td') (k:=k) (by omega)
   have g1:=accS_range (c:=V.doorC j) (lo:=0) (hi:=900) (by omega) (by omega) (l:=ds.take k) (t:=td'.take k) fun x hx => A.doorC j x (List.mem_of_mem_take hx)
   have g2:=accS_range (c:=V.doorH j) (lo:=0) (hi:=900) (by omega) (by omega) (l:=ds.take k) (t:=td'.take k) fun x hx => A.doorH j x (List.mem_of_mem_take hx)
   have hlen:(ds.take k).length≤2:=by rw [List.length_take]; omega
   have hrest:=(A.m.D.each d (List.mem_of_getElem? hd)).2.2.2
   have hrr:=rest_range (d:=d) (m:=900) (by omega) hrest.2.2.1 t
   refine ⟨(u + accS (V.doorC j) (ds.take (k + 1)) (td'.take (k + 1)),v + accS (V.doorH j) (ds.take (k + 1)) (td'.take (k + 1))),?_,rfl,rfl⟩
   rw [accS_take (V.doorC j) hd ht,accS_take (V.doorH j) hd ht]
   simp only [gbe_122F,gbe_122r,show decide ((k:Int) < (ds.length:Int)) = true by rw [decide_eq_true_eq]; omega,cond_true,idx_get hd,Option.bind_some,idx_get ht,
    refRest_eq d (by simp [Big]; have:=hrest.2.1; omega),wrap_succ hk (show ds.length≤Big by simp [Big]; omega),wrap64 (n:=x + (restS d t).1) (by omega) (by omega),wrap64 (n:=y + (restS d t).2) (by omega) (by omega)]
   by_cases hj:d.1 = (j:Int)
   ·rw [show (d.1 == (j:Int)) = true by simpa using hj]
    simp only [V.doorC,V.doorH,if_pos hj,cond_true,hx,hy,Int.add_assoc]
    rfl
   ·rw [show (d.1 == (j:Int)) = false by simpa using hj]
    simp only [V.doorC,V.doorH,if_neg hj,cond_false,hx,hy,Int.add_zero]
    rfl)
  (by
   rintro ⟨x,y⟩ ⟨hx,hy⟩
   simp only at hx hy
   refine ⟨_,by simp only [gbe_122F,gbe_122r,show decide ((ds.length:Int) < (ds.length:Int)) = false by simp,cond_false]; rfl,?_⟩
   rw [hx,hy,List.take_length,show ds.length = td'.length by omega,List.take_length]) (u,v) (by simp [accS])
 rw [← hq]; exact hz
theorem inner_fans (A:AirOk ps rs fs ds tf td tf' td' pr fl) (j:Nat) (q a b u v:Int) (hq1:-2000000≤q) (hq2:q≤2000000) (hu:-2000000000000000000≤u∧u≤2000000000000000000) (hv:-2000000000000000000≤v∧v≤2000000000000000000) :
  gbe_2042 j q ps rs fs ds tf' td' a b u v 0 = some ((a,b,()),(u - accS (V.fanH j q) fs tf',v - accS (V.fanC j q) fs tf',()),()):=by
 have hdl:=A.m.F.len
 have hds:=A.m.F.same
 have hd':=A.f.1
 obtain ⟨z,hz,hq⟩:=loopL_inv (f:=gbe_2042F) fs
  (fun k (x:Int×Int) => ((j:Int),q,(ps,rs,fs,ds,()),(tf',td',()),(a,b,()),(x.1,x.2,()),(k:Int),()))
  (fun k x => x.1 = u - accS (V.fanH j q) (fs.take k) (tf'.take k)∧x.2 = v - accS (V.fanC j q) (fs.take k) (tf'.take k))
  (fun z => z = ((a,b,()),(u - accS (V.fanH j q) fs tf',v - accS (V.fanC j q) fs tf',()),())) (by
   rintro k d ⟨x,y⟩ hd ⟨hx,hy⟩
   left
   simp only at hx hy
   have hk:=lt_of_get hd
   obtain ⟨t,ht⟩:=get_of_lt (l:=tf') (k:=k) (by omega)
   have g1:=accS_range (c:=V.fanC j q) (lo:=-3000) (hi:=3000) (by omega) (by omega) (l:=fs.take k) (t:=tf'.take k) fun x hx => A.fanC j q x (List.mem_of_mem_take hx)
   have g2:=accS_range (c:=V.fanH j q) (lo:=-3000) (hi:=3000) (by omega) (by omega) (l:=fs.take k) (t:=tf'.take k) fun x hx => A.fanH j q x (List.mem_of_mem_take hx)
   have hlen:(fs.take k).length≤2:=by rw [List.length_take]; omega
   have hc:=(A.m.F.each d (List.mem_of_getElem? hd)).2.2
   obtain ⟨c1,c2,c3⟩:=A.curve (List.mem_of_getElem? hd)
   have hrr:=state_range (f:=d) (m:=3000) c1 c2 c3 t q
   refine ⟨(u - accS (V.fanH j q) (fs.take (k + 1)) (tf'.take (k + 1)),v - accS (V.fanC j q) (fs.take (k + 1)) (tf'.take (k + 1))),?_,rfl,rfl⟩
   rw [accS_take (V.fanC j q) hd ht,accS_take (V.fanH j q) hd ht]
   simp only [gbe_2042F,gbe_2042r,show decide ((k:Int) < (fs.length:Int)) = true by rw [decide_eq_true_eq]; omega,cond_true,idx_get hd,Option.bind_some,idx_get ht,
    refState_eq hc.fan (st:=t) (q:=q) (by omega) (by omega),wrap_succ hk (show fs.length≤Big by simp [Big]; omega),wrap64 (n:=x - (stateS d t q).2) (by omega) (by omega),wrap64 (n:=y - (stateS d t q).1) (by omega) (by omega)]
   by_cases hj:d.1 = (j:Int)
   ·rw [show (d.1 == (j:Int)) = true by simpa using hj]
    simp only [V.fanC,V.fanH,if_pos hj,cond_true,hx,hy,Int.sub_sub]
    rfl
   ·rw [show (d.1 == (j:Int)) = false by simpa using hj]
    simp only [V.fanC,V.fanH,if_neg hj,cond_false,hx,hy,Int.add_zero]
    rfl)
  (by
   rintro ⟨x,y⟩ ⟨hx,hy⟩
   simp only at hx hy
   refine ⟨_,by simp only [gbe_2042F,gbe_2042r,show decide ((fs.length:Int) < (fs.length:Int)) = false by simp,cond_false]; rfl,?_⟩
   rw [hx,hy,List.take_length,show fs.length = tf'.length by omega,List.take_length]) (u,v) (by simp [accS])
 rw [← hq]; exact hz
theorem sq_range {a q:Int} (ha:0≤a∧a≤2000) (hq:-1048577≤q∧q≤1048577):-3000000000≤a * q∧a * q≤3000000000∧-4000000000000000≤a * q * q∧a * q * q≤4000000000000000∧0≤a * q * q:=by
 have h1:a * q≤a * 1048577:=Int.mul_le_mul_of_nonneg_left hq.2 ha.1
 have h2:a * (-1048577)≤a * q:=Int.mul_le_mul_of_nonneg_left hq.1 ha.1
 have h3:0≤q * q:=by
  rcases Int.le_total 0 q with h | h
  ·exact Int.mul_nonneg h h
  ·have:=Int.mul_nonneg (a:=-q) (b:=-q) (by omega) (by omega)
   rwa [Int.neg_mul_neg] at this
 have h4:q * q≤1048577 * 1048577:=by
  rcases Int.le_total 0 q with h | h
  ·exact Int.mul_le_mul hq.2 hq.2 h (by omega)
  ·have:=Int.mul_le_mul (show -q≤1048577 by omega) (show -q≤1048577 by omega) (by omega) (by omega)
   rwa [Int.neg_mul_neg] at this
 have h5:0≤a * (q * q):=Int.mul_nonneg ha.1 h3
 have h6:a * (q * q)≤2000 * (1048577 * 1048577):=Int.mul_le_mul ha.2 h4 h3 (by omega)
 rw [Int.mul_assoc]
 omega
theorem AirOk.inner (A:AirOk ps rs fs ds tf td tf' td' pr fl) {k:Nat} {r:RoadT} (hr:rs[k]? = some r) {q:Int} (hq:-1048577≤q∧q≤1048577) :
  gbe ps rs fs ds tf' td' k q = some ((innLo fs ds tf' td' k r q,innHi fs ds tf' td' k r q,()),()):=by
 have hro:=(A.m.road r (List.mem_of_getElem? hr)).2.2.2.2.2
 unfold RoadOk at hro
 have hli:=A.m.lift r (List.mem_of_getElem? hr)
 have hd:=A.doors k td'
 have s1:=sq_range (a:=r.2.2.2.2.2.2.1 + accS (V.doorC k) ds td') (q:=q) (by omega) hq
 have s2:=sq_range (a:=r.2.2.2.2.2.2.2.1 + accS (V.doorH k) ds td') (q:=q) (by omega) hq
 simp only [gbe,idx_get hr,Option.bind_some,inner_doors A k q 0 0 r r.2.2.2.2.2.2.1 r.2.2.2.2.2.2.2.1 (by omega) (by omega)]
 unfold innLo innHi
 generalize r.2.2.2.2.2.2.1 + accS (V.doorC k) ds td' = x at *
 generalize r.2.2.2.2.2.2.2.1 + accS (V.doorH k) ds td' = y at *
 by_cases hn:q < 0
 ·rw [show decide (q < 0) = true by simpa using hn]
  rw [if_pos hn,if_pos hn,show max q (-q) = -q by omega,show y * (-q) * q = -(y * q * q) by rw [Int.mul_neg,Int.neg_mul],show x * (-q) * q = -(x * q * q) by rw [Int.mul_neg,Int.neg_mul]]
  generalize hxq:x * q * q = xq at *
  generalize hyq:y * q * q = yq at *
  simp only [cond_true,gbe_127,wrap64 (n:=x * q) (by omega) (by omega),wrap64 (n:=y * q) (by omega) (by omega),hxq,hyq,wrap64 (n:=xq) (by omega) (by omega),wrap64 (n:=yq) (by omega) (by omega),wrap64 (n:=0 - xq) (by omega) (by omega),wrap64 (n:=0 - yq) (by omega) (by omega),
   wrap64 (n:=0 - yq - r.2.2.2.2.2.2.2.2.2) (by omega) (by omega),wrap64 (n:=0 - xq - r.2.2.2.2.2.2.2.2.1) (by omega) (by omega)]
  rw [inner_fans A k q 0 0 _ _ (by omega) (by omega) (by omega) (by omega)]
  simp only [Option.bind_some,Int.zero_sub]
 ·rw [show decide (q < 0) = false by simpa using hn]
  rw [if_neg hn,if_neg hn,show max q (-q) = q by omega]
  generalize hxq:x * q * q = xq at *
  generalize hyq:y * q * q = yq at *
  simp only [cond_false,gbe_127,wrap64 (n:=x * q) (by omega) (by omega),wrap64 (n:=y * q) (by omega) (by omega),hxq,hyq,wrap64 (n:=xq) (by omega) (by omega),wrap64 (n:=yq) (by omega) (by omega),
   wrap64 (n:=xq - r.2.2.2.2.2.2.2.2.2) (by omega) (by omega),wrap64 (n:=yq - r.2.2.2.2.2.2.2.2.1) (by omega) (by omega)]
  rw [inner_fans A k q 0 0 _ _ (by omega) (by omega) (by omega) (by omega)]
  simp only [Option.bind_some]
theorem AirOk.drop (A:AirOk ps rs fs ds tf td tf' td' pr fl) {k:Nat} {r:RoadT} (hr:rs[k]? = some r) {q:Int} (hq:-1000≤q∧q≤1000) (hc:r.2.2.2.2.2.1 = false) :
  gbf ps rs fs ds tf' td' k q = some ((innLo fs ds tf' td' k r q,innHi fs ds tf' td' k r q,()),()):=by
 simp only [gbf,A.open hr,hc,Option.bind_some,Bool.not_false,Bool.not_true,cond_false,A.inner hr (q:=q) (by omega),show decide (q < -1048577) = false by rw [decide_eq_false_iff_not]; omega,show decide (q > 1048577) = false by rw [decide_eq_false_iff_not]; omega]
theorem AirOk.drop0 (A:AirOk ps rs fs ds tf td tf' td' pr fl) {k:Nat} {r:RoadT} (hr:rs[k]? = some r) (q:Int) (hc:r.2.2.2.2.2.1 = true) :
  gbf ps rs fs ds tf' td' k q = some ((0,0,()),()):=by
 simp only [gbf,A.open hr,hc,Option.bind_some,Bool.not_true,Bool.not_false,cond_true]
end
end Go.V

namespace Go.V
open Go
section
variable {ps:List PlaceT} {rs:List RoadT} {fs:List FanT} {ds:List DoorT} {tf td tf' td' pr fl:List Int}
theorem take_snoc {α:Type} {l:List α} {k:Nat} {x:α} (h:l[k]? = some x):l.take (k + 1) = l.take k ++ [x]:=by
 have hk:=lt_of_get h
 rw [List.take_add_one,h]; rfl
theorem NetInv.step {n:Nat} {rs:List RoadT} {fl net:List Int} (h:NetInv n rs fl net) (hfl:fl.length = rs.length) {r:RoadT} {q x y:Int} (h1:0≤r.1) (h2:0≤r.2.1) (hne:r.1 ≠ r.2.1)
  (hx:net[r.1.toNat]? = some x) (hy:net[r.2.1.toNat]? = some y):NetInv n (rs ++ [r]) (fl ++ [q]) ((net.set r.1.toNat (x + q)).set r.2.1.toNat (y - q)):=by
 obtain ⟨hn1,hn2⟩:=h
 have hx0:=hn2 _ _ hx
 have hy0:=hn2 _ _ hy
 have lx:=lt_of_get hx
 have ly:=lt_of_get hy
 refine ⟨by simp [hn1],fun j v hv => ?_⟩
 rw [netS_snoc _ _ _ hfl]
 rw [List.getElem?_set] at hv
 by_cases e1:r.2.1.toNat = j
 ·subst e1
  rw [if_pos rfl,if_pos (by simp; omega)] at hv
  cases hv
  rw [Int.toNat_of_nonneg h2] at hy0 ⊢
  rw [if_neg hne,if_pos rfl,hy0]; omega
 ·rw [if_neg e1,List.getElem?_set] at hv
  by_cases e2:r.1.toNat = j
  ·subst e2
   rw [if_pos rfl,if_pos (by omega)] at hv
   cases hv
   rw [Int.toNat_of_nonneg h1] at hx0 ⊢
   rw [if_pos rfl,if_neg (fun e => hne e.symm),hx0]; omega
  ·rw [if_neg e2] at hv
   rw [if_neg (by omega),if_neg (by omega),hn2 j v hv]; omega
theorem AirOk.fitsRef (A:AirOk ps rs fs ds tf td tf' td' pr fl):gbg ps rs fs ds tf' td' pr fl = some (0,()):=by
 have hpl:=A.m.plen
 have hflen:=A.m.flen
 have hnp:=A.m.np
 have hnr:=A.m.nr
 have l1:gbg_250 ps rs fs ds tf' td' pr fl 0 = some (.inr ((ps,rs,fs,ds,()),(tf',td',()),(pr,fl,()),())):=by
  obtain ⟨z,hz,hq⟩:=loopL_inv (f:=gbg_250F) pr (fun k (_:Unit) => ((ps,rs,fs,ds,()),(tf',td',()),(pr,fl,()),(k:Int),())) (fun _ _ => True) (fun z => z = .inr ((ps,rs,fs,ds,()),(tf',td',()),(pr,fl,()),())) (by
    intro k t b ht _
    left
    have hk:=lt_of_get ht
    have:=A.m.prr t (List.mem_of_getElem? ht)
    refine ⟨(),?_,trivial⟩
    simp only [gbg_250F,gbg_250r,show decide ((k:Int) < (pr.length:Int)) = true by rw [decide_eq_true_eq]; omega,cond_true,idx_get ht,Option.bind_some,show decide (t < -70368744177664) = false by rw [decide_eq_false_iff_not]; omega,show decide (t > 70368744177664) = false by rw [decide_eq_false_iff_not]; omega,cond_false,wrap_succ hk (show pr.length≤Big by simp [Big]; omega)]; rfl)
   (fun b _ => ⟨_,by simp only [gbg_250F,gbg_250r,show decide ((pr.length:Int) < (pr.length:Int)) = false by simp,cond_false],rfl⟩) () trivial
  rw [← hq]; exact hz
 have l2:gbg_506 ps rs fs ds tf' td' pr fl 0 = some (.inr ((ps,rs,fs,ds,()),(tf',td',()),(pr,fl,()),())):=by
  obtain ⟨z,hz,hq⟩:=loopL_inv (f:=gbg_506F) fl (fun k (_:Unit) => ((ps,rs,fs,ds,()),(tf',td',()),(pr,fl,()),(k:Int),())) (fun _ _ => True) (fun z => z = .inr ((ps,rs,fs,ds,()),(tf',td',()),(pr,fl,()),())) (by
    intro k t b ht _
    left
    have hk:=lt_of_get ht
    have:=A.m.fr t (List.mem_of_getElem? ht)
    refine ⟨(),?_,trivial⟩
    simp only [gbg_506F,gbg_506r,show decide ((k:Int) < (fl.length:Int)) = true by rw [decide_eq_true_eq]; omega,cond_true,idx_get ht,Option.bind_some,show decide (t < -1048576) = false by rw [decide_eq_false_iff_not]; omega,show decide (t > 1048576) = false by rw [decide_eq_false_iff_not]; omega,cond_false,wrap_succ hk (show fl.length≤Big by simp [Big]; omega)]; rfl)
   (fun b _ => ⟨_,by simp only [gbg_506F,gbg_506r,show decide ((fl.length:Int) < (fl.length:Int)) = false by simp,cond_false],rfl⟩) () trivial
  rw [← hq]; exact hz
 obtain ⟨net,hnet,l3⟩:∃ net,NetInv pr.length rs fl net∧gbg_2042 ps rs fs ds tf' td' pr fl (List.replicate pr.length 0) 0 = some (.inr ((ps,rs,fs,ds,()),(pr,fl,()),net,())):=by
  obtain ⟨z,hz,net,h1,h2⟩:=loopL_inv (f:=gbg_2042F) rs (fun k (b:List Int) => ((ps,rs,fs,ds,()),(tf',td',()),(pr,fl,()),b,(k:Int),())) (fun k b => NetInv pr.length (rs.take k) (fl.take k) b) (fun z => ∃ net,NetInv pr.length rs fl net∧z = .inr ((ps,rs,fs,ds,()),(pr,fl,()),net,())) (by
    intro k r net hr hN
    left
    have hk:=lt_of_get hr
    obtain ⟨q,hq⟩:=get_of_lt (l:=fl) (k:=k) (by omega)
    have hqr:=A.m.fr q (List.mem_of_getElem? hq)
    obtain ⟨g1,g2,g3,g4,g5,_⟩:=A.m.road r (List.mem_of_getElem? hr)
    obtain ⟨p1,hp1⟩:=get_of_lt (l:=pr) (k:=r.1.toNat) (by omega)
    obtain ⟨p2,hp2⟩:=get_of_lt (l:=pr) (k:=r.2.1.toNat) (by omega)
    have hp1r:=A.m.prr p1 (List.mem_of_getElem? hp1)
    have hp2r:=A.m.prr p2 (List.mem_of_getElem? hp2)
    have hrg:=hN.range (m:=1000) (by omega) (fun q hq => A.m.fr q (List.mem_of_mem_take hq)) fun r hr => (A.m.road r (List.mem_of_mem_take hr)).2.2.2.2.1
    have hlen:(rs.take k).length≤12:=by rw [List.length_take]; omega
    have hnl:=hN.1
    obtain ⟨x,hx⟩:=get_of_lt (l:=net) (k:=r.1.toNat) (by omega)
    obtain ⟨y,hy⟩:=get_of_lt (l:=net) (k:=r.2.1.toNat) (by omega)
    have hxr:=hrg x (List.mem_of_getElem? hx)
    have hyr:=hrg y (List.mem_of_getElem? hy)
    have hyy:(net.set r.1.toNat (x + q))[r.2.1.toNat]? = some y:=by rw [List.getElem?_set,if_neg (by omega),hy]
    have hflt:(fl.take k).length = (rs.take k).length:=by rw [List.length_take,List.length_take]; omega
    refine ⟨(net.set r.1.toNat (x + q)).set r.2.1.toNat (y - q),?_,by rw [take_snoc hr,take_snoc hq]; exact hN.step hflt g1 g3 g5 hx hy⟩
    have hfit:=A.fits hr hq
    rw [hp1,hp2] at hfit
    simp only [Option.getD_some] at hfit
    have rest:∀ (d1 d2:Int) (c:Bool),gbf ps rs fs ds tf' td' k q = some ((d1,d2,()),())→r.2.2.2.2.2.1 = c→(c = true→q = 0)→(c = false→d1≤p1 - p2∧p1 - p2≤d2) →
      gbg_2042F ((ps,rs,fs,ds,()),(tf',td',()),(pr,fl,()),net,(k:Int),()) = some (.inl ((ps,rs,fs,ds,()),(tf',td',()),(pr,fl,()),(net.set r.1.toNat (x + q)).set r.2.1.toNat (y - q),((k + 1:Nat):Int),())):=by
     intro d1 d2 c hd hc h0 h1
     simp only [gbg_2042F,gbg_2042r,show decide ((k:Int) < (fl.length:Int)) = true by rw [decide_eq_true_eq]; omega,cond_true,idx_get hr,idx_get hq,idx_int g1 hp1,idx_int g3 hp2,hd,Option.bind_some,hc,wrap64 (n:=p1 - p2) (by omega) (by omega)]
     have hcc:(bif c then some (q != 0) else some false) = some false:=by
      cases c
      ·rfl
      ·rw [h0 rfl]; rfl
     have hcd:(bif !c then (bif decide (p1 - p2 < d1) then some true else some (decide (p1 - p2 > d2))).bind fun b3 => some b3 else some false) = some false:=by
      cases c
      ·have:=h1 rfl
       rw [show decide (p1 - p2 < d1) = false by rw [decide_eq_false_iff_not]; omega,show decide (p1 - p2 > d2) = false by rw [decide_eq_false_iff_not]; omega]; rfl
      ·rfl
     rw [hcc,Option.bind_some,cond_false,hcd]
     simp only [Option.bind_some,cond_false,inb (k:=r.1) (n:=net.length) g1 (by omega),cond_true,hx,List.length_set,inb (k:=r.2.1) (n:=net.length) g3 (by omega),wrap64 (n:=x + q) (by omega) (by omega),hyy,wrap64 (n:=y - q) (by omega) (by omega),wrap_succ hk (show rs.length≤Big by simp [Big]; omega)]
     rfl
    cases hc:r.2.2.2.2.2.1
    ·exact rest _ _ _ (A.drop hr hqr hc) hc (fun h => by cases h) fun _ => hfit
    ·exact rest _ _ _ (A.drop0 hr q hc) hc (fun _ => A.m.closed k r q hr hq hc) (fun h => by cases h))
   (fun b hb => ⟨.inr ((ps,rs,fs,ds,()),(pr,fl,()),b,()),by simp only [gbg_2042F,gbg_2042r,show decide ((rs.length:Int) < (fl.length:Int)) = false by rw [decide_eq_false_iff_not]; omega,cond_false],b,by rw [List.take_length,← hflen,List.take_length] at hb; exact hb,rfl⟩) (List.replicate pr.length 0)
   ⟨by simp,fun k x hx => by
    simp only [List.getElem?_replicate] at hx
    split at hx
    ·cases hx; simp [netS]
    ·cases hx⟩
  exact ⟨net,h1,by rw [← h2]; exact hz⟩
 have l4:gbg_4090 ps rs fs ds pr fl net 0 = some (.inr ()):=by
  have hnl:=hnet.1
  obtain ⟨z,hz,hq⟩:=loopL_inv (f:=gbg_4090F) net (fun k (_:Unit) => ((ps,rs,fs,ds,()),(pr,fl,()),net,(k:Int),())) (fun _ _ => True) (fun z => z = .inr ()) (by
    intro k x b hx _
    left
    have hk:=lt_of_get hx
    obtain ⟨p,hp⟩:=get_of_lt (l:=ps) (k:=k) (by omega)
    obtain ⟨w,hw⟩:=get_of_lt (l:=pr) (k:=k) (by omega)
    have hxn:=hnet.2 k x hx
    refine ⟨(),?_,trivial⟩
    simp only [gbg_4090F,gbg_4090r,show decide ((k:Int) < (net.length:Int)) = true by rw [decide_eq_true_eq]; omega,cond_true,idx_get hp,idx_get hw,Option.bind_some,inb (k:=(k:Int)) (n:=net.length) (by omega) (by omega),Int.toNat_natCast,hx]
    cases hs:p.2
    ·rw [hxn,A.m.bal k p hp hs]
     simp only [cond_false,Option.bind_some,Bool.not_false,cond_true,bne_self_eq_false,wrap_succ hk (show net.length≤Big by simp [Big]; omega)]; rfl
    ·rw [A.m.surf k p w hp hw hs]
     simp only [cond_false,Option.bind_some,Bool.not_true,cond_true,bne_self_eq_false,wrap_succ hk (show net.length≤Big by simp [Big]; omega)]; rfl)
   (fun b _ => ⟨_,by simp only [gbg_4090F,gbg_4090r,show decide ((net.length:Int) < (net.length:Int)) = false by simp,cond_false],rfl⟩) () trivial
  rw [← hq]; exact hz
 simp only [gbg,A.check,A.right,Option.bind_some,bne_self_eq_false,cond_false,Bool.not_true,show ((pr.length:Int) != (ps.length:Int)) = false by simp; omega,show ((fl.length:Int) != (rs.length:Int)) = false by simp; omega,l1,sumElim_inr,l2]
 rw [show (decide (0≤(pr.length:Int)) && (decide ((pr.length:Int)≤(pr.length:Int)) && decide ((pr.length:Int) * ((8:Nat):Int)≤((140737488355328:Nat):Int)))) = true by simp only [Bool.and_eq_true,decide_eq_true_eq]; omega]
 simp only [cond_true,Int.toNat_natCast,l3,Option.bind_some,sumElim_inr,l4]
end
end Go.V

namespace Go.V
open Go
def cf:List Bool→Nat
 | [] => 0
 | b :: l => (bif b then 0 else 1) + cf l
theorem cf_set:∀ {l:List Bool} {i:Nat} {b:Bool},l[i]? = some b→cf (l.set i true) + (bif b then 0 else 1) = cf l
 | [],_,_,h => by simp at h
 | a :: l,0,b,h => by simp at h; subst h; cases a <;> simp [cf]; omega
 | a :: l,i + 1,b,h => by
  have:=cf_set (l:=l) (i:=i) (b:=b) (by simpa using h)
  simp only [List.set_cons_succ,cf]; omega
def Spreads (rs:List RoadT) (Q:Nat→Prop):Prop:=∀ r∈rs,r.2.2.2.2.2.1 = false→(Q r.1.toNat ↔ Q r.2.1.toNat)
structure Reach (rs:List RoadT) (seen out:List Bool):Prop where
 len:out.length = seen.length
 up:∀ i:Nat,seen[i]? = some true→out[i]? = some true
 least:∀ Q:Nat→Prop,(∀ i:Nat,seen[i]? = some true→Q i)→Spreads rs Q→∀ i:Nat,out[i]? = some true→Q i
def EndsIn (n:Nat) (rs:List RoadT):Prop:=∀ r∈rs,0≤r.1∧r.1 < n∧0≤r.2.1∧r.2.1 < n∧r.1 ≠ r.2.1
theorem Reach.step {rs:List RoadT} {seen out:List Bool} (R:Reach rs seen out) {r:RoadT} (hr:r∈rs) (hc:r.2.2.2.2.2.1 = false) {a b:Bool} (ha:out[r.1.toNat]? = some a) (hb:out[r.2.1.toNat]? = some b) (hne:a ≠ b) :
  Reach rs seen ((out.set r.1.toNat true).set r.2.1.toNat true):=by
 have la:=lt_of_get ha
 have lb:=lt_of_get hb
 refine ⟨by simp [R.len],fun i hi => ?_,fun Q h1 h2 i hi => ?_⟩
 ·have:=R.up i hi
  rw [List.getElem?_set]
  split
  ·first | rfl | rw [if_pos (by simpa using lb)]
  ·rw [List.getElem?_set]
   split
   ·first | rfl | rw [if_pos la]
   ·exact this
 ·have hab:Q r.1.toNat∧Q r.2.1.toNat:=by
   have hs:=h2 r hr hc
   cases a
   ·cases b
    ·exact absurd rfl hne
    ·have:=R.least Q h1 h2 _ hb
     exact ⟨hs.2 this,this⟩
   ·have:=R.least Q h1 h2 _ ha
    exact ⟨this,hs.1 this⟩
  by_cases e2:r.2.1.toNat = i
  ·rw [← e2]; exact hab.2
  ·by_cases e1:r.1.toNat = i
   ·rw [← e1]; exact hab.1
   ·rw [List.getElem?_set,if_neg e2,List.getElem?_set,if_neg e1] at hi
    exact R.least Q h1 h2 i hi
theorem from_round (ps:List PlaceT) {rs:List RoadT} {seen out0:List Bool} (hE:EndsIn seen.length rs) (hn:rs.length≤1000) (R:Reach rs seen out0) :
  ∃ out again,gbi_3734 ps rs out0 false 0 = some ((ps,rs,()),out,again,())∧Reach rs seen out∧(again = false→out = out0∧∀ r∈rs,r.2.2.2.2.2.1 = false→out[r.1.toNat]? = out[r.2.1.toNat]?)∧(again = true→cf out < cf out0):=by
 obtain ⟨z,hz,out,again,h1,h2,h3,h4⟩:=loopL_inv (f:=gbi_3734F) rs (fun k (b:List Bool×Bool) => ((ps,rs,()),b.1,b.2,(k:Int),()))
  (fun k b => Reach rs seen b.1∧(b.2 = false→b.1 = out0∧∀ (j:Nat) (r:RoadT),j < k→rs[j]? = some r→r.2.2.2.2.2.1 = false→b.1[r.1.toNat]? = b.1[r.2.1.toNat]?)∧(b.2 = true→cf b.1 < cf out0))
  (fun z => ∃ out again,z = ((ps,rs,()),out,again,())∧Reach rs seen out∧(again = false→out = out0∧∀ r∈rs,r.2.2.2.2.2.1 = false→out[r.1.toNat]? = out[r.2.1.toNat]?)∧(again = true→cf out < cf out0)) (by
   rintro k r ⟨out,again⟩ hr ⟨q1,q2,q3⟩
   left
   simp only at q1 q2 q3
   have hk:=lt_of_get hr
   obtain ⟨g1,g2,g3,g4,g5⟩:=hE r (List.mem_of_getElem? hr)
   have hl:=q1.len
   obtain ⟨a,ha⟩:=get_of_lt (l:=out) (k:=r.1.toNat) (by omega)
   obtain ⟨b,hb⟩:=get_of_lt (l:=out) (k:=r.2.1.toNat) (by omega)
   have hset:(out.set r.1.toNat true)[r.2.1.toNat]? = some b:=by rw [List.getElem?_set,if_neg (by omega),hb]
   simp only [gbi_3734F,gbi_3734r,show decide ((k:Int) < (rs.length:Int)) = true by rw [decide_eq_true_eq]; omega,cond_true,idx_get hr,Option.bind_some,inb (k:=r.1) (n:=out.length) g1 (by omega),inb (k:=r.2.1) (n:=out.length) g3 (by omega),ha,hb,List.length_set,hset,wrap_succ hk (show rs.length≤Big by simp [Big]; omega)]
   cases hc:r.2.2.2.2.2.1
   ·by_cases hab:a = b
    ·subst hab
     refine ⟨(out,again),?_,q1,fun h => ⟨(q2 h).1,fun j r' hj hr' hc' => ?_⟩,q3⟩
     ·simp only [Bool.not_false,cond_true,beq_self_eq_true,Bool.not_true,Option.bind_some,cond_false]; rfl
     ·by_cases e:j = k
      ·subst e
       have:r' = r:=Option.some.inj (hr'.symm.trans hr)
       subst this
       rw [ha,hb]
      ·exact (q2 h).2 j r' (by omega) hr' hc'
    ·refine ⟨((out.set r.1.toNat true).set r.2.1.toNat true,true),?_,q1.step (List.mem_of_getElem? hr) hc ha hb hab,(fun h => by cases h),fun _ => ?_⟩
     ·simp only [Bool.not_false,cond_true,show (a == b) = false by simpa using hab,Option.bind_some]; rfl
     ·have c1:=cf_set ha
      have c2:=cf_set hset
      simp only
      have c3:cf out≤cf out0:=by
       cases again
       ·rw [(q2 rfl).1]; omega
       ·have:=q3 rfl; omega
      cases a <;> cases b <;> simp only [cond_true,cond_false] at c1 c2 <;> first | exact absurd rfl hab | omega
   ·refine ⟨(out,again),?_,q1,fun h => ⟨(q2 h).1,fun j r' hj hr' hc' => ?_⟩,q3⟩
    ·simp only [Bool.not_true,cond_false,Option.bind_some]; rfl
    ·by_cases e:j = k
     ·subst e
      have:r' = r:=Option.some.inj (hr'.symm.trans hr)
      subst this
      rw [hc] at hc'; cases hc'
     ·exact (q2 h).2 j r' (by omega) hr' hc')
  (by
   rintro ⟨out,again⟩ ⟨q1,q2,q3⟩
   refine ⟨((ps,rs,()),out,again,()),by simp only [gbi_3734F,gbi_3734r,show decide ((rs.length:Int) < (rs.length:Int)) = false by simp,cond_false],out,again,rfl,q1,fun h => ⟨(q2 h).1,fun r hr hc => ?_⟩,q3⟩
   obtain ⟨j,hj,rfl⟩:=List.getElem_of_mem hr
   exact (q2 h).2 j _ hj (List.getElem?_eq_getElem hj) hc) (out0,false) ⟨R,fun _ => ⟨rfl,fun j r hj => by omega⟩,fun h => by cases h⟩
 exact ⟨out,again,by rw [← h1]; exact hz,h2,h3,h4⟩
theorem from_ok (ps:List PlaceT) {rs:List RoadT} {seen:List Bool} (hE:EndsIn seen.length rs) (hn:rs.length≤1000) (hs:seen.length≤1000) :
  ∃ out,gbi ps rs seen = some (out,())∧Reach rs seen out∧∀ r∈rs,r.2.2.2.2.2.1 = false→out[r.1.toNat]? = out[r.2.1.toNat]?:=by
 have key:∀ (m:Nat) (out0:List Bool),cf out0≤m→Reach rs seen out0→∃ out,loopL gbi_58F ((ps,rs,()),out0,true,()) = some (out,())∧Reach rs seen out∧∀ r∈rs,r.2.2.2.2.2.1 = false→out[r.1.toNat]? = out[r.2.1.toNat]?:=by
  intro m
  induction m with
  | zero =>
   intro out0 hm R
   obtain ⟨out,again,e,R',h1,h2⟩:=from_round ps hE hn R
   have ha:again = false:=by
    cases again
    ·rfl
    ·have:=h2 rfl; omega
   subst ha
   refine ⟨out,?_,R',(h1 rfl).2⟩
   rw [loopL_step]
   simp only [gbi_58F,gbi_58r,cond_true,e,Option.bind_some]
   rw [loopL_step]
   simp only [gbi_58F,gbi_58r,cond_false,Option.bind_some]
  | succ m ih =>
   intro out0 hm R
   obtain ⟨out,again,e,R',h1,h2⟩:=from_round ps hE hn R
   rw [loopL_step]
   simp only [gbi_58F,gbi_58r,cond_true,e,Option.bind_some]
   cases again
   ·refine ⟨out,?_,R',(h1 rfl).2⟩
    rw [loopL_step]
    simp only [gbi_58F,gbi_58r,cond_false,Option.bind_some]
   ·exact ih out (by have:=h2 rfl; omega) R'
 obtain ⟨out,e,R,h⟩:=key _ seen (Nat.le_refl _) ⟨rfl,fun i h => h,fun Q h1 _ i h => h1 i h⟩
 refine ⟨out,?_,R,h⟩
 simp only [gbi,show decide ((0 + seen.length) * 1≤140737488355328) = true by rw [decide_eq_true_eq]; omega,cond_true,gbi_58,e,Option.bind_some]
section
variable {ps:List PlaceT} {rs:List RoadT} {fs:List FanT} {ds:List DoorT} {tf td tf' td' pr fl:List Int}
structure AiryOk (ps:List PlaceT) (rs:List RoadT) (out:List Bool):Prop where
 len:out.length = ps.length
 surf:∀ (i:Nat) (p:PlaceT),ps[i]? = some p→p.2 = true→out[i]? = some true
 closed:∀ r∈rs,r.2.2.2.2.2.1 = false→out[r.1.toNat]? = out[r.2.1.toNat]?
 least:∀ Q:Nat→Prop,(∀ (i:Nat) (p:PlaceT),ps[i]? = some p→p.2 = true→Q i)→Spreads rs Q→∀ i:Nat,out[i]? = some true→Q i
theorem airy_ok (hE:EndsIn ps.length rs) (hn:rs.length≤1000) (hs:ps.length≤1000):∃ out,gbj ps rs = some (out,())∧AiryOk ps rs out:=by
 have l1:gbj_58 ps rs (List.replicate ps.length false) 0 = some ((ps,rs,()),ps.map (·.2),()):=by
  obtain ⟨z,hz,hq⟩:=loopL_inv (f:=gbj_58F) ps (fun k (b:List Bool) => ((ps,rs,()),b,(k:Int),()))
   (fun k b => b.length = ps.length∧∀ j:Nat,j < k→b[j]? = (ps.map (·.2))[j]?) (fun z => z = ((ps,rs,()),ps.map (·.2),())) (by
    rintro k p b hp ⟨q1,q2⟩
    left
    have hk:=lt_of_get hp
    obtain ⟨x,hx⟩:=get_of_lt (l:=b) (k:=k) (by omega)
    refine ⟨b.set k p.2,?_,by simp [q1],fun j hj => ?_⟩
    ·simp only [gbj_58F,gbj_58r,show decide ((k:Int) < (ps.length:Int)) = true by rw [decide_eq_true_eq]; omega,cond_true,idx_get hp,Option.bind_some,inb (k:=(k:Int)) (n:=b.length) (by omega) (by omega),Int.toNat_natCast,hx,wrap_succ hk (show ps.length≤Big by simp [Big]; omega)]; rfl
    ·rw [List.getElem?_set]
     by_cases e:k = j
     ·subst e
      rw [if_pos rfl,if_pos (by omega),List.getElem?_map,hp]; rfl
     ·rw [if_neg e]; exact q2 j (by omega))
   (by
    rintro b ⟨q1,q2⟩
    refine ⟨((ps,rs,()),b,()),by simp only [gbj_58F,gbj_58r,show decide ((ps.length:Int) < (ps.length:Int)) = false by simp,cond_false],?_⟩
    have:b = ps.map (·.2):=List.ext_getElem? fun j => by
     by_cases hj:j < ps.length
     ·exact q2 j hj
     ·rw [List.getElem?_eq_none (by omega),List.getElem?_eq_none (by simp; omega)]
    rw [this]) (List.replicate ps.length false) ⟨by simp,fun j hj => by omega⟩
  rw [← hq]; exact hz
 obtain ⟨out,e,R,hc⟩:=from_ok ps (rs:=rs) (seen:=ps.map (·.2)) (by rw [List.length_map]; exact hE) hn (by simpa using hs)
 refine ⟨out,?_,by rw [R.len]; simp,fun i p hp hs => R.up i (by rw [List.getElem?_map,hp,← hs]; rfl),hc,fun Q h1 h2 i hi => R.least Q (fun i hi => ?_) h2 i hi⟩
 ·simp only [gbj]
  rw [show (decide (0≤(ps.length:Int)) && (decide ((ps.length:Int)≤(ps.length:Int)) && decide ((ps.length:Int) * ((1:Nat):Int)≤((140737488355328:Nat):Int)))) = true by simp only [Bool.and_eq_true,decide_eq_true_eq]; omega]
  simp only [cond_true,Int.toNat_natCast,l1,Option.bind_some,e]
 ·rw [List.getElem?_map] at hi
  cases hp:ps[i]? with
  | none => rw [hp] at hi; simp at hi
  | some p =>
   rw [hp] at hi
   simp only [Option.map_some,Option.some.injEq] at hi
   exact h1 i p hp hi
def FixOk (ps:List PlaceT) (air fix:List Bool):Prop:=fix.length = ps.length∧∀ (i:Nat) (a:Bool) (p:PlaceT),air[i]? = some a→ps[i]? = some p→fix[i]? = some (!a || p.2)
theorem fixed_ok (hE:EndsIn ps.length rs) (hn:rs.length≤1000) (hs:ps.length≤1000) {air:List Bool} (ha:gbj ps rs = some (air,())) (hl:air.length = ps.length) :
  ∃ fix,gbk ps rs = some (fix,())∧FixOk ps air fix:=by
 obtain ⟨z,hz,fix,hq,h1⟩:=loopL_inv (f:=gbk_58F) air (fun k (b:List Bool) => ((ps,rs,()),b,(k:Int),()))
  (fun k b => b.length = ps.length∧(∀ j:Nat,k≤j→b[j]? = air[j]?)∧∀ (j:Nat) (a:Bool) (p:PlaceT),j < k→air[j]? = some a→ps[j]? = some p→b[j]? = some (!a || p.2)) (fun z => ∃ fix,z = (fix,())∧FixOk ps air fix) (by
   rintro k a b hak ⟨q1,q2,q3⟩
   left
   have hk:=lt_of_get hak
   obtain ⟨p,hp⟩:=get_of_lt (l:=ps) (k:=k) (by omega)
   have hb:b[k]? = some a:=by rw [q2 k (Nat.le_refl _),hak]
   refine ⟨b.set k (!a || p.2),?_,by simp [q1],fun j hj => ?_,fun j a' p' hj ha' hp' => ?_⟩
   ·simp only [gbk_58F,gbk_58r,show decide ((k:Int) < (b.length:Int)) = true by rw [decide_eq_true_eq]; omega,cond_true,idx_get hp,inb (k:=(k:Int)) (n:=b.length) (by omega) (by omega),Int.toNat_natCast,hb,Option.bind_some,wrap_succ hk (show air.length≤Big by simp [Big]; omega)]
    cases a <;> rfl
   ·rw [List.getElem?_set,if_neg (by omega)]; exact q2 j (by omega)
   ·rw [List.getElem?_set]
    by_cases e:k = j
    ·subst e
     rw [hak] at ha'; rw [hp] at hp'; cases ha'; cases hp'
     rw [if_pos rfl,if_pos (by omega)]
    ·rw [if_neg e]; exact q3 j a' p' (by omega) ha' hp')
  (by
   rintro b ⟨q1,q2,q3⟩
   refine ⟨(b,()),by simp only [gbk_58F,gbk_58r,show decide ((air.length:Int) < (b.length:Int)) = false by rw [decide_eq_false_iff_not]; omega,cond_false],b,rfl,q1,fun i a p h1 h2 => q3 i a p (lt_of_get h1) h1 h2⟩) air ⟨hl,fun j _ => rfl,fun j a p hj => by omega⟩
 refine ⟨fix,?_,h1⟩
 have e:gbk_58 ps rs air 0 = some (fix,()):=by rw [← hq]; exact hz
 simp only [gbk,ha,Option.bind_some,e]
end
end Go.V

namespace Go.V
open Go
def netL (g h:Nat→Int→Int) (l:List Int) (i:Int):List RoadT→Nat→Int
 | [],_ => 0
 | r :: rs,k => (if r.2.2.2.2.2.1 = true then 0 else if r.1 = i then g k ((l[r.1.toNat]?).getD 0 - (l[r.2.1.toNat]?).getD 0) else if r.2.1 = i then -h k ((l[r.1.toNat]?).getD 0 - (l[r.2.1.toNat]?).getD 0) else 0) + netL g h l i rs (k + 1)
theorem netL_snoc (g h:Nat→Int→Int) (l:List Int) (i:Int) (x:RoadT):∀ (rs:List RoadT) (k:Nat),netL g h l i (rs ++ [x]) k = netL g h l i rs k + netL g h l i [x] (k + rs.length)
 | [],k => by simp [netL]
 | r :: rs,k => by
  have:=netL_snoc g h l i x rs (k + 1)
  simp only [List.cons_append,netL,this,List.length_cons,show k + 1 + rs.length = k + (rs.length + 1) by omega]
  omega
theorem netL_le {g h:Nat→Int→Int} {l:List Int} {i:Int}:∀ {rs:List RoadT} {fl:List Int} {k0:Nat},fl.length = rs.length→(∀ r∈rs,r.1 ≠ r.2.1) →
  (∀ (k:Nat) (r:RoadT) (q:Int),rs[k]? = some r→fl[k]? = some q→(r.2.2.2.2.2.1 = true→q = 0)∧(r.2.2.2.2.2.1 = false→(r.1 = i→g (k0 + k) ((l[r.1.toNat]?).getD 0 - (l[r.2.1.toNat]?).getD 0)≤q)∧(r.2.1 = i→q≤h (k0 + k) ((l[r.1.toNat]?).getD 0 - (l[r.2.1.toNat]?).getD 0)))) →
  netL g h l i rs k0≤netS i rs fl∧((∃ (k:Nat) (r:RoadT) (q:Int),rs[k]? = some r∧fl[k]? = some q∧r.2.2.2.2.2.1 = false∧((r.1 = i∧g (k0 + k) ((l[r.1.toNat]?).getD 0 - (l[r.2.1.toNat]?).getD 0) < q)∨(r.2.1 = i∧q < h (k0 + k) ((l[r.1.toNat]?).getD 0 - (l[r.2.1.toNat]?).getD 0))))→netL g h l i rs k0 < netS i rs fl)
 | [],[],k0,_,_,_ => ⟨by simp [netL,netS],fun ⟨k,r,q,h,_⟩ => by simp at h⟩
 | [],_ :: _,_,h,_,_ => by simp at h
 | _ :: _,[],_,h,_,_ => by simp at h
 | r :: rs,q :: fl,k0,hl,hne,hh => by
  obtain ⟨i1,i2⟩:=netL_le (g:=g) (h:=h) (l:=l) (i:=i) (rs:=rs) (fl:=fl) (k0:=k0 + 1) (by simpa using hl) (fun r hr => hne r (by simp [hr])) fun k r q h1 h2 => by
   have:=hh (k + 1) r q (by simpa using h1) (by simpa using h2)
   rwa [show k0 + (k + 1) = k0 + 1 + k by omega] at this
  obtain ⟨a1,a2⟩:=hh 0 r q (by simp) (by simp)
  have hn:=hne r (by simp)
  simp only [Nat.add_zero] at a2
  simp only [netL,netS]
  have st:∀ (c:Prop),(netL g h l i rs (k0 + 1)≤netS i rs fl)∧(c→netL g h l i rs (k0 + 1) < netS i rs fl)→True:=fun _ _ => trivial
  have hx:(∃ (k:Nat) (r':RoadT) (q':Int),(r :: rs)[k]? = some r'∧(q :: fl)[k]? = some q'∧r'.2.2.2.2.2.1 = false∧((r'.1 = i∧g (k0 + k) ((l[r'.1.toNat]?).getD 0 - (l[r'.2.1.toNat]?).getD 0) < q')∨(r'.2.1 = i∧q' < h (k0 + k) ((l[r'.1.toNat]?).getD 0 - (l[r'.2.1.toNat]?).getD 0)))) →
    (r.2.2.2.2.2.1 = false∧((r.1 = i∧g k0 ((l[r.1.toNat]?).getD 0 - (l[r.2.1.toNat]?).getD 0) < q)∨(r.2.1 = i∧q < h k0 ((l[r.1.toNat]?).getD 0 - (l[r.2.1.toNat]?).getD 0))))∨netL g h l i rs (k0 + 1) < netS i rs fl:=by
   rintro ⟨k,r',q',e1,e2,e3⟩
   cases k with
   | zero =>
    simp at e1 e2; subst e1; subst e2
    exact .inl e3
   | succ k =>
    right
    exact i2 ⟨k,r',q',by simpa using e1,by simpa using e2,e3.1,by rw [show k0 + 1 + k = k0 + (k + 1) by omega]; exact e3.2⟩
  cases hc:r.2.2.2.2.2.1
  ·obtain ⟨b1,b2⟩:=a2 hc
   rw [if_neg (by simp)]
   by_cases c1:r.1 = i
   ·have:=b1 c1
    rw [if_pos c1,if_pos c1,if_neg (by omega)]
    refine ⟨by omega,fun h => ?_⟩
    rcases hx h with ⟨_,⟨_,h⟩ | ⟨h,_⟩⟩ | h <;> omega
   ·rw [if_neg c1,if_neg c1]
    by_cases c2:r.2.1 = i
    ·have:=b2 c2
     rw [if_pos c2,if_pos c2]
     refine ⟨by omega,fun h => ?_⟩
     rcases hx h with ⟨_,⟨h,_⟩ | ⟨_,h⟩⟩ | h <;> omega
    ·rw [if_neg c2,if_neg c2]
     refine ⟨by omega,fun h => ?_⟩
     rcases hx h with ⟨_,⟨h,_⟩ | ⟨h,_⟩⟩ | h <;> omega
  ·have h0:=a1 hc
   subst h0
   rw [if_pos rfl]
   have e:((if r.1 = i then (0:Int) else 0) - if r.2.1 = i then 0 else 0) = 0:=by split <;> split <;> rfl
   rw [e]
   refine ⟨by omega,fun h => ?_⟩
   rcases hx h with ⟨h,_⟩ | h
   ·rw [hc] at h; cases h
   ·omega
noncomputable def lowF (ps:List PlaceT) (rs:List RoadT) (fs:List FanT) (ds:List DoorT) (tf td:List Int) (k:Nat) (p:Int):Int:=((gbm ps rs fs ds tf td k p).getD (0,())).1
noncomputable def highF (ps:List PlaceT) (rs:List RoadT) (fs:List FanT) (ds:List DoorT) (tf td:List Int) (k:Nat) (p:Int):Int:=((gbn ps rs fs ds tf td k p).getD (0,())).1
section
variable {ps:List PlaceT} {rs:List RoadT} {fs:List FanT} {ds:List DoorT} {tf td tf' td' pr fl:List Int}
theorem AirOk.lowest (A:AirOk ps rs fs ds tf td tf' td' pr fl) {k:Nat} {r:RoadT} (hr:rs[k]? = some r) (p:Int) :
  gbm ps rs fs ds tf' td' k p = some (lowF ps rs fs ds tf' td' k p,())∧-1048577≤lowF ps rs fs ds tf' td' k p∧lowF ps rs fs ds tf' td' k p≤1048576∧(lowF ps rs fs ds tf' td' k p = -1048577∨innHi fs ds tf' td' k r (lowF ps rs fs ds tf' td' k p)≤p):=by
 obtain ⟨z,hz,v,e,h1,h2,h3⟩:=loopL_ind (f:=gbm_28F) (fun z => ∃ a b:Int,z = ((k:Int),p,(ps,rs,fs,ds,()),(tf',td',()),a,b,())∧-1048577≤a∧a≤b∧b≤1048576∧(a = -1048577∨innHi fs ds tf' td' k r a≤p))
  (fun z => (z.2.2.2.2.2.1 - z.2.2.2.2.1).toNat) (fun z => ∃ v,z = (v,())∧-1048577≤v∧v≤1048576∧(v = -1048577∨innHi fs ds tf' td' k r v≤p)) (by
   rintro _ ⟨a,b,rfl,q1,q2,q3,q4⟩
   simp only [gbm_28F,gbm_28r]
   by_cases hab:a < b
   ·have hd:Int.tdiv (b - a + 1) 2 = (b - a + 1) / 2:=Int.tdiv_eq_ediv_of_nonneg (by omega)
    rw [show decide (a < b) = true by simpa using hab,wrap64 (n:=b - a) (by omega) (by omega),wrap64 (n:=b - a + 1) (by omega) (by omega),hd,wrap64 (n:=(b - a + 1) / 2) (by omega) (by omega),wrap64 (n:=a + (b - a + 1) / 2) (by omega) (by omega),wrap64 (n:=a + (b - a + 1) / 2 - 1) (by omega) (by omega)]
    simp only [cond_true,A.inner hr (q:=a + (b - a + 1) / 2) (by omega),Option.bind_some]
    by_cases hc:innHi fs ds tf' td' k r (a + (b - a + 1) / 2)≤p
    ·rw [show decide (innHi fs ds tf' td' k r (a + (b - a + 1) / 2)≤p) = true by simpa using hc]
     exact ⟨_,rfl,⟨_,_,rfl,by omega,by omega,by omega,.inr hc⟩,by simp only; omega⟩
    ·rw [show decide (innHi fs ds tf' td' k r (a + (b - a + 1) / 2)≤p) = false by simpa using hc]
     exact ⟨_,rfl,⟨_,_,rfl,by omega,by omega,by omega,q4⟩,by simp only; omega⟩
   ·rw [show decide (a < b) = false by simpa using hab]
    exact ⟨_,rfl,a,rfl,q1,by omega,q4⟩)
  (s:=((k:Int),p,(ps,rs,fs,ds,()),(tf',td',()),-1048577,1048576,())) ⟨_,_,rfl,by omega,by omega,by omega,.inl rfl⟩
 subst e
 have e:gbm ps rs fs ds tf' td' k p = some (v,()):=by
  simp only [gbm,gbm_28,hz,Option.bind_some]
 have e2:lowF ps rs fs ds tf' td' k p = v:=by unfold lowF; rw [e]; rfl
 rw [e2]; exact ⟨e,h1,h2,h3⟩
theorem AirOk.highest (A:AirOk ps rs fs ds tf td tf' td' pr fl) {k:Nat} {r:RoadT} (hr:rs[k]? = some r) (p:Int) :
  gbn ps rs fs ds tf' td' k p = some (highF ps rs fs ds tf' td' k p,())∧-1048576≤highF ps rs fs ds tf' td' k p∧highF ps rs fs ds tf' td' k p≤1048577∧(highF ps rs fs ds tf' td' k p = 1048577∨p≤innLo fs ds tf' td' k r (highF ps rs fs ds tf' td' k p)):=by
 obtain ⟨z,hz,v,e,h1,h2,h3⟩:=loopL_ind (f:=gbn_28F) (fun z => ∃ a b:Int,z = ((k:Int),p,(ps,rs,fs,ds,()),(tf',td',()),a,b,())∧-1048576≤a∧a≤b∧b≤1048577∧(b = 1048577∨p≤innLo fs ds tf' td' k r b))
  (fun z => (z.2.2.2.2.2.1 - z.2.2.2.2.1).toNat) (fun z => ∃ v,z = (v,())∧-1048576≤v∧v≤1048577∧(v = 1048577∨p≤innLo fs ds tf' td' k r v)) (by
   rintro _ ⟨a,b,rfl,q1,q2,q3,q4⟩
   simp only [gbn_28F,gbn_28r]
   by_cases hab:a < b
   ·have hd:Int.tdiv (b - a) 2 = (b - a) / 2:=Int.tdiv_eq_ediv_of_nonneg (by omega)
    rw [show decide (a < b) = true by simpa using hab,wrap64 (n:=b - a) (by omega) (by omega),hd,wrap64 (n:=(b - a) / 2) (by omega) (by omega),wrap64 (n:=a + (b - a) / 2) (by omega) (by omega),wrap64 (n:=a + (b - a) / 2 + 1) (by omega) (by omega)]
    simp only [cond_true,A.inner hr (q:=a + (b - a) / 2) (by omega),Option.bind_some]
    by_cases hc:innLo fs ds tf' td' k r (a + (b - a) / 2) ≥ p
    ·rw [show decide (innLo fs ds tf' td' k r (a + (b - a) / 2) ≥ p) = true by simpa using hc]
     exact ⟨_,rfl,⟨_,_,rfl,by omega,by omega,by omega,.inr hc⟩,by simp only; omega⟩
    ·rw [show decide (innLo fs ds tf' td' k r (a + (b - a) / 2) ≥ p) = false by simpa using hc]
     exact ⟨_,rfl,⟨_,_,rfl,by omega,by omega,by omega,q4⟩,by simp only; omega⟩
   ·rw [show decide (a < b) = false by simpa using hab]
    refine ⟨_,rfl,a,rfl,q1,by omega,?_⟩
    rw [show a = b by omega]; exact q4)
  (s:=((k:Int),p,(ps,rs,fs,ds,()),(tf',td',()),-1048576,1048577,())) ⟨_,_,rfl,by omega,by omega,by omega,.inl rfl⟩
 subst e
 have e:gbn ps rs fs ds tf' td' k p = some (v,()):=by
  simp only [gbn,gbn_28,hz,Option.bind_some]
 have e2:highF ps rs fs ds tf' td' k p = v:=by unfold highF; rw [e]; rfl
 rw [e2]; exact ⟨e,h1,h2,h3⟩
theorem AirOk.low_le (A:AirOk ps rs fs ds tf td tf' td' pr fl) {k:Nat} {r:RoadT} {q:Int} (hr:rs[k]? = some r) (hq:fl[k]? = some q) {p:Int} :
  (p≤(pr[r.1.toNat]?).getD 0 - (pr[r.2.1.toNat]?).getD 0→lowF ps rs fs ds tf' td' k p≤q)∧(p < (pr[r.1.toNat]?).getD 0 - (pr[r.2.1.toNat]?).getD 0→lowF ps rs fs ds tf' td' k p < q):=by
 obtain ⟨_,h1,h2,h3⟩:=A.lowest hr p
 have hf:=A.fits hr hq
 have hqr:=A.m.fr q (List.mem_of_getElem? hq)
 generalize lowF ps rs fs ds tf' td' k p = v at *
 have lt:=fun a b => A.hi_lt k (List.mem_of_getElem? hr) tf' td' (q:=a) (q':=b)
 constructor
 ·intro h
  rcases h3 with h3 | h3
  ·omega
  ·rcases Int.lt_or_le q v with hv | hv
   ·have:=lt _ _ hv; omega
   ·exact hv
 ·intro h
  rcases h3 with h3 | h3
  ·omega
  ·rcases Int.lt_trichotomy q v with hv | hv | hv
   ·have:=lt _ _ hv; omega
   ·subst hv; omega
   ·exact hv
theorem AirOk.high_ge (A:AirOk ps rs fs ds tf td tf' td' pr fl) {k:Nat} {r:RoadT} {q:Int} (hr:rs[k]? = some r) (hq:fl[k]? = some q) {p:Int} :
  ((pr[r.1.toNat]?).getD 0 - (pr[r.2.1.toNat]?).getD 0≤p→q≤highF ps rs fs ds tf' td' k p)∧((pr[r.1.toNat]?).getD 0 - (pr[r.2.1.toNat]?).getD 0 < p→q < highF ps rs fs ds tf' td' k p):=by
 obtain ⟨_,h1,h2,h3⟩:=A.highest hr p
 have hf:=A.fits hr hq
 have hqr:=A.m.fr q (List.mem_of_getElem? hq)
 generalize highF ps rs fs ds tf' td' k p = v at *
 have lt:=fun a b => A.lo_lt k (List.mem_of_getElem? hr) tf' td' (q:=a) (q':=b)
 constructor
 ·intro h
  rcases h3 with h3 | h3
  ·omega
  ·rcases Int.lt_or_le v q with hv | hv
   ·have:=lt _ _ hv; omega
   ·exact hv
 ·intro h
  rcases h3 with h3 | h3
  ·omega
  ·rcases Int.lt_trichotomy q v with hv | hv | hv
   ·exact hv
   ·subst hv; omega
   ·have:=lt _ _ hv; omega
noncomputable def netLo (ps:List PlaceT) (rs:List RoadT) (fs:List FanT) (ds:List DoorT) (tf td:List Int) (l:List Int) (i:Int):Int:=netL (lowF ps rs fs ds tf td) (highF ps rs fs ds tf td) l i rs 0
noncomputable def netHi (ps:List PlaceT) (rs:List RoadT) (fs:List FanT) (ds:List DoorT) (tf td:List Int) (l:List Int) (i:Int):Int:=netL (highF ps rs fs ds tf td) (lowF ps rs fs ds tf td) l i rs 0
def InR (n:Nat) (l:List Int):Prop:=l.length = n∧∀ x∈l,-70368744177664≤x∧x≤70368744177664
theorem AirOk.netLo_eq (A:AirOk ps rs fs ds tf td tf' td' pr fl) {l:List Int} (hl:InR ps.length l) (i:Int):gbo ps rs fs ds tf' td' l i = some (netLo ps rs fs ds tf' td' l i,()):=by
 have hnr:=A.m.nr
 obtain ⟨z,hz,hq⟩:=loopL_inv (f:=gbo_58F) rs (fun k (n:Int) => (l,i,(ps,rs,fs,ds,()),(tf',td',()),n,(k:Int),()))
  (fun k n => n = netL (lowF ps rs fs ds tf' td') (highF ps rs fs ds tf' td') l i (rs.take k) 0∧-(1048577 * k)≤n∧n≤1048577 * k) (fun z => z = (netLo ps rs fs ds tf' td' l i,())) (by
   rintro k r n hr ⟨hn,hn1,hn2⟩
   left
   have hk:=lt_of_get hr
   obtain ⟨g1,g2,g3,g4,g5,_⟩:=A.m.road r (List.mem_of_getElem? hr)
   have hll:=hl.1
   obtain ⟨x,hx⟩:=get_of_lt (l:=l) (k:=r.1.toNat) (by omega)
   obtain ⟨y,hy⟩:=get_of_lt (l:=l) (k:=r.2.1.toNat) (by omega)
   have hxr:=hl.2 x (List.mem_of_getElem? hx)
   have hyr:=hl.2 y (List.mem_of_getElem? hy)
   obtain ⟨e1,b1,b2,_⟩:=A.lowest hr (x - y)
   obtain ⟨e2,b3,b4,_⟩:=A.highest hr (x - y)
   have hsn:netL (lowF ps rs fs ds tf' td') (highF ps rs fs ds tf' td') l i (rs.take (k + 1)) 0 = n + (if r.2.2.2.2.2.1 = true then 0 else if r.1 = i then lowF ps rs fs ds tf' td' k (x - y) else if r.2.1 = i then -highF ps rs fs ds tf' td' k (x - y) else 0):=by
    rw [take_snoc hr,netL_snoc,hn]
    simp only [netL,List.length_take,Nat.zero_add,show min k rs.length = k by omega,hx,hy,Option.getD_some,Int.add_zero]
   refine ⟨netL (lowF ps rs fs ds tf' td') (highF ps rs fs ds tf' td') l i (rs.take (k + 1)) 0,?_,rfl,?_⟩
   ·rw [hsn]
    simp only [gbo_58F,gbo_58r,gbo_7463,show decide ((k:Int) < (rs.length:Int)) = true by rw [decide_eq_true_eq]; omega,cond_true,idx_get hr,Option.bind_some,idx_int g1 hx,idx_int g3 hy,wrap64 (n:=x - y) (by omega) (by omega),e1,e2]
    cases hc:r.2.2.2.2.2.1
    ·rw [if_neg (by simp)]
     by_cases c1:r.1 = i
     ·rw [if_pos c1,show (r.1 == i) = true by simpa using c1,show (r.2.1 == i) = false by simp; omega]
      simp only [cond_true,cond_false,Option.bind_some,wrap_succ hk (show rs.length≤Big by simp [Big]; omega),wrap64 (n:=n + lowF ps rs fs ds tf' td' k (x - y)) (by omega) (by omega)]
      rfl
     ·rw [if_neg c1,show (r.1 == i) = false by simpa using c1]
      by_cases c2:r.2.1 = i
      ·rw [if_pos c2,← Int.sub_eq_add_neg,show (r.2.1 == i) = true by simpa using c2]
       simp only [cond_true,cond_false,Option.bind_some,wrap_succ hk (show rs.length≤Big by simp [Big]; omega),wrap64 (n:=n - highF ps rs fs ds tf' td' k (x - y)) (by omega) (by omega)]
       rfl
      ·rw [if_neg c2,show (r.2.1 == i) = false by simpa using c2]
       simp only [cond_false,Option.bind_some,wrap_succ hk (show rs.length≤Big by simp [Big]; omega),Int.add_zero]
       rfl
    ·rw [if_pos rfl]
     simp only [cond_true,wrap_succ hk (show rs.length≤Big by simp [Big]; omega),Int.add_zero]
     rfl
   ·rw [hsn]
    rw [Int.natCast_add,Int.mul_add]
    split
    ·omega
    ·split
     ·omega
     ·split <;> omega)
  (by
   rintro n ⟨hn,_⟩
   refine ⟨(n,()),by simp only [gbo_58F,gbo_58r,show decide ((rs.length:Int) < (rs.length:Int)) = false by simp,cond_false],?_⟩
   rw [hn,List.take_length]; rfl) 0 ⟨rfl,by omega,by omega⟩
 have e:gbo_58 l i ps rs fs ds tf' td' 0 0 = some (netLo ps rs fs ds tf' td' l i,()):=by rw [← hq]; exact hz
 simp only [gbo,e,Option.bind_some]
theorem AirOk.netHi_eq (A:AirOk ps rs fs ds tf td tf' td' pr fl) {l:List Int} (hl:InR ps.length l) (i:Int):gbq ps rs fs ds tf' td' l i = some (netHi ps rs fs ds tf' td' l i,()):=by
 have hnr:=A.m.nr
 obtain ⟨z,hz,hq⟩:=loopL_inv (f:=gbq_58F) rs (fun k (n:Int) => (l,i,(ps,rs,fs,ds,()),(tf',td',()),n,(k:Int),()))
  (fun k n => n = netL (highF ps rs fs ds tf' td') (lowF ps rs fs ds tf' td') l i (rs.take k) 0∧-(1048577 * k)≤n∧n≤1048577 * k) (fun z => z = (netHi ps rs fs ds tf' td' l i,())) (by
   rintro k r n hr ⟨hn,hn1,hn2⟩
   left
   have hk:=lt_of_get hr
   obtain ⟨g1,g2,g3,g4,g5,_⟩:=A.m.road r (List.mem_of_getElem? hr)
   have hll:=hl.1
   obtain ⟨x,hx⟩:=get_of_lt (l:=l) (k:=r.1.toNat) (by omega)
   obtain ⟨y,hy⟩:=get_of_lt (l:=l) (k:=r.2.1.toNat) (by omega)
   have hxr:=hl.2 x (List.mem_of_getElem? hx)
   have hyr:=hl.2 y (List.mem_of_getElem? hy)
   obtain ⟨e1,b1,b2,_⟩:=A.highest hr (x - y)
   obtain ⟨e2,b3,b4,_⟩:=A.lowest hr (x - y)
   have hsn:netL (highF ps rs fs ds tf' td') (lowF ps rs fs ds tf' td') l i (rs.take (k + 1)) 0 = n + (if r.2.2.2.2.2.1 = true then 0 else if r.1 = i then highF ps rs fs ds tf' td' k (x - y) else if r.2.1 = i then -lowF ps rs fs ds tf' td' k (x - y) else 0):=by
    rw [take_snoc hr,netL_snoc,hn]
    simp only [netL,List.length_take,Nat.zero_add,show min k rs.length = k by omega,hx,hy,Option.getD_some,Int.add_zero]
   refine ⟨netL (highF ps rs fs ds tf' td') (lowF ps rs fs ds tf' td') l i (rs.take (k + 1)) 0,?_,rfl,?_⟩
   ·rw [hsn]
    simp only [gbq_58F,gbq_58r,gbq_7463,show decide ((k:Int) < (rs.length:Int)) = true by rw [decide_eq_true_eq]; omega,cond_true,idx_get hr,Option.bind_some,idx_int g1 hx,idx_int g3 hy,wrap64 (n:=x - y) (by omega) (by omega),e1,e2]
    cases hc:r.2.2.2.2.2.1
    ·rw [if_neg (by simp)]
     by_cases c1:r.1 = i
     ·rw [if_pos c1,show (r.1 == i) = true by simpa using c1,show (r.2.1 == i) = false by simp; omega]
      simp only [cond_true,cond_false,Option.bind_some,wrap_succ hk (show rs.length≤Big by simp [Big]; omega),wrap64 (n:=n + highF ps rs fs ds tf' td' k (x - y)) (by omega) (by omega)]
      rfl
     ·rw [if_neg c1,show (r.1 == i) = false by simpa using c1]
      by_cases c2:r.2.1 = i
      ·rw [if_pos c2,← Int.sub_eq_add_neg,show (r.2.1 == i) = true by simpa using c2]
       simp only [cond_true,cond_false,Option.bind_some,wrap_succ hk (show rs.length≤Big by simp [Big]; omega),wrap64 (n:=n - lowF ps rs fs ds tf' td' k (x - y)) (by omega) (by omega)]
       rfl
      ·rw [if_neg c2,show (r.2.1 == i) = false by simpa using c2]
       simp only [cond_false,Option.bind_some,wrap_succ hk (show rs.length≤Big by simp [Big]; omega),Int.add_zero]
       rfl
    ·rw [if_pos rfl]
     simp only [cond_true,wrap_succ hk (show rs.length≤Big by simp [Big]; omega),Int.add_zero]
     rfl
   ·rw [hsn]
    rw [Int.natCast_add,Int.mul_add]
    split
    ·omega
    ·split
     ·omega
     ·split <;> omega)
  (by
   rintro n ⟨hn,_⟩
   refine ⟨(n,()),by simp only [gbq_58F,gbq_58r,show decide ((rs.length:Int) < (rs.length:Int)) = false by simp,cond_false],?_⟩
   rw [hn,List.take_length]; rfl) 0 ⟨rfl,by omega,by omega⟩
 have e:gbq_58 l i ps rs fs ds tf' td' 0 0 = some (netHi ps rs fs ds tf' td' l i,()):=by rw [← hq]; exact hz
 simp only [gbq,e,Option.bind_some]
end
end Go.V

namespace Go.V
open Go
theorem InR.set {n:Nat} {l:List Int} (h:InR n l) {i:Nat} {v:Int} (h1:-70368744177664≤v) (h2:v≤70368744177664):InR n (l.set i v):=by
 refine ⟨by simp [h.1],fun x hx => ?_⟩
 rcases List.mem_or_eq_of_mem_set hx with hx | rfl
 ·exact h.2 x hx
 ·exact ⟨h1,h2⟩
theorem set_same {l:List Int} {i:Nat} {a:Int} (h:l[i]? = some a):l.set i a = l:=by
 apply List.ext_getElem?
 intro j
 rw [List.getElem?_set]
 split
 ·rename_i e; subst e; rw [if_pos (lt_of_get h),h]
 ·rfl
theorem get_set_self {l:List Int} {i:Nat} {a:Int} (h:i < l.length):(l.set i a)[i]? = some a:=by rw [List.getElem?_set,if_pos rfl,if_pos h]
section
variable {ps:List PlaceT} {rs:List RoadT} {fs:List FanT} {ds:List DoorT} {tf td tf' td' pr fl:List Int}
theorem AirOk.up (A:AirOk ps rs fs ds tf td tf' td' pr fl) {l:List Int} (hl:InR ps.length l) {i:Nat} (hi:i < ps.length) :
  ∃ v ok,gbp ps rs fs ds tf' td' l i = some ((v,ok,()),())∧(ok = true→-70368744177664≤v∧v≤70368744177664∧netLo ps rs fs ds tf' td' (l.set i v) i ≥ 0):=by
 have hll:=hl.1
 have hnp:=A.m.np
 obtain ⟨a,ha⟩:=get_of_lt (l:=l) (k:=i) (by omega)
 have har:=hl.2 a (List.mem_of_getElem? ha)
 have hb:=inb (k:=(i:Int)) (n:=l.length) (by omega) (by omega)
 simp only [gbp,show decide ((0 + l.length) * 8≤140737488355328) = true by rw [decide_eq_true_eq]; omega,cond_true,A.netLo_eq hl,Option.bind_some,hb,Int.toNat_natCast,ha]
 by_cases h0:netLo ps rs fs ds tf' td' l i ≥ 0
 ·rw [show decide (netLo ps rs fs ds tf' td' l i ≥ 0) = true by simpa using h0]
  refine ⟨a,true,by simp only [cond_true],fun _ => ⟨har.1,har.2,by rw [set_same ha]; exact h0⟩⟩
 ·rw [show decide (netLo ps rs fs ds tf' td' l i ≥ 0) = false by simpa using h0]
  simp only [cond_false]
  obtain ⟨z,hz,hq⟩:=loopL_ind (f:=gbp_124F) (fun z => ∃ low step:Int,z = ((i:Int),(ps,rs,fs,ds,()),(tf',td',()),l.set i low,low,step,())∧1≤step∧low = a + (step - 1)∧-70368744177664≤low∧low≤70368744177664)
   (fun z => (70368744177664 - z.2.2.2.2.1).toNat)
   (fun z => (∃ v low:Int,z = .inl ((i:Int),(ps,rs,fs,ds,()),(tf',td',()),l.set i v,low,())∧-70368744177664≤v∧v≤70368744177664∧netLo ps rs fs ds tf' td' (l.set i v) i ≥ 0∧-70368744177664≤low∧low≤70368744177664)∨z = .inr (0,false,())) (by
    rintro _ ⟨low,step,rfl,q1,q2,q3,q4⟩
    obtain ⟨v,hv,hv1,hv2,hv3⟩:∃ v:Int,(bif decide (70368744177664 < low + step) then 70368744177664 else low + step) = v∧-70368744177664≤v∧v≤70368744177664∧(v = 70368744177664∨v = low + step):=by
     by_cases h:70368744177664 < low + step
     ·exact ⟨_,rfl,by rw [show decide (70368744177664 < low + step) = true by simpa using h]; simp,by rw [show decide (70368744177664 < low + step) = true by simpa using h]; simp,.inl (by rw [show decide (70368744177664 < low + step) = true by simpa using h]; rfl)⟩
     ·have e:(bif decide (70368744177664 < low + step) then 70368744177664 else low + step) = low + step:=by rw [show decide (70368744177664 < low + step) = false by simpa using h]; rfl
      exact ⟨_,e,by omega,by omega,.inr rfl⟩
    simp only [gbp_124F,gbp_124r,List.length_set,hb,cond_true,Int.toNat_natCast,get_set_self (l:=l) (i:=i) (a:=low) (by omega),Option.bind_some,wrap64 (n:=low + step) (by omega) (by omega),hv,List.set_set,A.netLo_eq (hl.set hv1 hv2),get_set_self (l:=l) (i:=i) (a:=v) (by omega),wrap64 (n:=step * 2) (by omega) (by omega)]
    by_cases hc:netLo ps rs fs ds tf' td' (l.set i v) i ≥ 0
    ·rw [show decide (netLo ps rs fs ds tf' td' (l.set i v) i ≥ 0) = true by simpa using hc]
     exact ⟨_,rfl,.inl ⟨v,low,rfl,hv1,hv2,hc,q3,q4⟩⟩
    ·rw [show decide (netLo ps rs fs ds tf' td' (l.set i v) i ≥ 0) = false by simpa using hc]
     by_cases he:v = 70368744177664
     ·rw [show (v == 70368744177664) = true by simpa using he]
      exact ⟨_,rfl,.inr rfl⟩
     ·rw [show (v == 70368744177664) = false by simpa using he]
      have e2:v = low + step:=by omega
      exact ⟨_,rfl,⟨v,step * 2,rfl,by omega,by omega,hv1,hv2⟩,by simp only; omega⟩)
   (s:=((i:Int),(ps,rs,fs,ds,()),(tf',td',()),l,a,1,())) ⟨a,1,by rw [set_same ha],by omega,by omega,har.1,har.2⟩
  have hz':gbp_124 i ps rs fs ds tf' td' l a 1 = some z:=hz
  rw [hz']
  rcases hq with ⟨v,low,rfl,g1,g2,g3,g4,g5⟩ | rfl
  ·simp only [Option.bind_some,sumElim_inl,List.length_set,hb,cond_true,Int.toNat_natCast,get_set_self (l:=l) (i:=i) (a:=v) (by omega)]
   obtain ⟨z,hz,w,rfl,w1,w2,w3⟩:=loopL_ind (f:=gbp_508F) (fun z => ∃ w a b:Int,z = ((i:Int),(ps,rs,fs,ds,()),(tf',td',()),l.set i w,a,b,())∧-70368744177664≤a∧a≤70368744177664∧-70368744177664≤b∧b≤70368744177664∧netLo ps rs fs ds tf' td' (l.set i b) i ≥ 0)
    (fun z => (z.2.2.2.2.2.1 - z.2.2.2.2.1).toNat) (fun z => ∃ v:Int,z = (v,())∧-70368744177664≤v∧v≤70368744177664∧netLo ps rs fs ds tf' td' (l.set i v) i ≥ 0) (by
     rintro _ ⟨w,a,b,rfl,q1,q2,q3,q4,q5⟩
     simp only [gbp_508F,gbp_508r,wrap64 (n:=a + 1) (by omega) (by omega),List.length_set,hb,Int.toNat_natCast,get_set_self (l:=l) (i:=i) (a:=w) (by omega),List.set_set]
     by_cases hab:a + 1 < b
     ·have hd:Int.tdiv (b - a) 2 = (b - a) / 2:=Int.tdiv_eq_ediv_of_nonneg (by omega)
      rw [show decide (a + 1 < b) = true by simpa using hab,wrap64 (n:=b - a) (by omega) (by omega),hd,wrap64 (n:=(b - a) / 2) (by omega) (by omega),wrap64 (n:=a + (b - a) / 2) (by omega) (by omega)]
      have hm1:-70368744177664≤a + (b - a) / 2:=by omega
      have hm2:a + (b - a) / 2≤70368744177664:=by omega
      simp only [cond_true,Option.bind_some,A.netLo_eq (hl.set hm1 hm2),get_set_self (l:=l) (i:=i) (a:=a + (b - a) / 2) (by omega)]
      by_cases hc:netLo ps rs fs ds tf' td' (l.set i (a + (b - a) / 2)) i ≥ 0
      ·rw [show decide (netLo ps rs fs ds tf' td' (l.set i (a + (b - a) / 2)) i ≥ 0) = true by simpa using hc]
       exact ⟨_,rfl,⟨_,_,_,rfl,q1,q2,hm1,hm2,hc⟩,by simp only; omega⟩
      ·rw [show decide (netLo ps rs fs ds tf' td' (l.set i (a + (b - a) / 2)) i ≥ 0) = false by simpa using hc]
       exact ⟨_,rfl,⟨_,_,_,rfl,hm1,hm2,q3,q4,q5⟩,by simp only; omega⟩
     ·rw [show decide (a + 1 < b) = false by simpa using hab]
      exact ⟨_,rfl,b,rfl,q3,q4,q5⟩)
    (s:=((i:Int),(ps,rs,fs,ds,()),(tf',td',()),l.set i v,low,v,())) ⟨v,low,v,rfl,g4,g5,g1,g2,g3⟩
   have hz'':gbp_508 i ps rs fs ds tf' td' (l.set i v) low v = some (w,()):=hz
   rw [hz'']
   exact ⟨w,true,rfl,fun _ => ⟨w1,w2,w3⟩⟩
  ·exact ⟨0,false,rfl,fun h => by cases h⟩
theorem AirOk.down (A:AirOk ps rs fs ds tf td tf' td' pr fl) {l:List Int} (hl:InR ps.length l) {i:Nat} (hi:i < ps.length) :
  ∃ v ok,gbr ps rs fs ds tf' td' l i = some ((v,ok,()),())∧(ok = true→-70368744177664≤v∧v≤70368744177664∧netHi ps rs fs ds tf' td' (l.set i v) i≤0):=by
 have hll:=hl.1
 have hnp:=A.m.np
 obtain ⟨a,ha⟩:=get_of_lt (l:=l) (k:=i) (by omega)
 have har:=hl.2 a (List.mem_of_getElem? ha)
 have hb:=inb (k:=(i:Int)) (n:=l.length) (by omega) (by omega)
 simp only [gbr,show decide ((0 + l.length) * 8≤140737488355328) = true by rw [decide_eq_true_eq]; omega,cond_true,A.netHi_eq hl,Option.bind_some,hb,Int.toNat_natCast,ha]
 by_cases h0:netHi ps rs fs ds tf' td' l i≤0
 ·rw [show decide (netHi ps rs fs ds tf' td' l i≤0) = true by simpa using h0]
  refine ⟨a,true,by simp only [cond_true],fun _ => ⟨har.1,har.2,by rw [set_same ha]; exact h0⟩⟩
 ·rw [show decide (netHi ps rs fs ds tf' td' l i≤0) = false by simpa using h0]
  simp only [cond_false]
  obtain ⟨z,hz,hq⟩:=loopL_ind (f:=gbr_124F) (fun z => ∃ low step:Int,z = ((i:Int),(ps,rs,fs,ds,()),(tf',td',()),l.set i low,low,step,())∧1≤step∧low = a - (step - 1)∧-70368744177664≤low∧low≤70368744177664)
   (fun z => (z.2.2.2.2.1 + 70368744177664).toNat)
   (fun z => (∃ v low:Int,z = .inl ((i:Int),(ps,rs,fs,ds,()),(tf',td',()),l.set i v,low,())∧-70368744177664≤v∧v≤70368744177664∧netHi ps rs fs ds tf' td' (l.set i v) i≤0∧-70368744177664≤low∧low≤70368744177664)∨z = .inr (0,false,())) (by
    rintro _ ⟨low,step,rfl,q1,q2,q3,q4⟩
    obtain ⟨v,hv,hv1,hv2,hv3⟩:∃ v:Int,(bif decide ((-70368744177664) > low - step) then (-70368744177664) else low - step) = v∧-70368744177664≤v∧v≤70368744177664∧(v = (-70368744177664)∨v = low - step):=by
     by_cases h:(-70368744177664) > low - step
     ·exact ⟨_,rfl,by rw [show decide ((-70368744177664) > low - step) = true by simpa using h]; simp,by rw [show decide ((-70368744177664) > low - step) = true by simpa using h]; simp,.inl (by rw [show decide ((-70368744177664) > low - step) = true by simpa using h]; rfl)⟩
     ·have e:(bif decide ((-70368744177664) > low - step) then (-70368744177664) else low - step) = low - step:=by rw [show decide ((-70368744177664) > low - step) = false by simpa using h]; rfl
      exact ⟨_,e,by omega,by omega,.inr rfl⟩
    simp only [gbr_124F,gbr_124r,List.length_set,hb,cond_true,Int.toNat_natCast,get_set_self (l:=l) (i:=i) (a:=low) (by omega),Option.bind_some,wrap64 (n:=low - step) (by omega) (by omega),hv,List.set_set,A.netHi_eq (hl.set hv1 hv2),get_set_self (l:=l) (i:=i) (a:=v) (by omega),wrap64 (n:=step * 2) (by omega) (by omega)]
    by_cases hc:netHi ps rs fs ds tf' td' (l.set i v) i≤0
    ·rw [show decide (netHi ps rs fs ds tf' td' (l.set i v) i≤0) = true by simpa using hc]
     exact ⟨_,rfl,.inl ⟨v,low,rfl,hv1,hv2,hc,q3,q4⟩⟩
    ·rw [show decide (netHi ps rs fs ds tf' td' (l.set i v) i≤0) = false by simpa using hc]
     by_cases he:v = (-70368744177664)
     ·rw [show (v == (-70368744177664)) = true by simpa using he]
      exact ⟨_,rfl,.inr rfl⟩
     ·rw [show (v == (-70368744177664)) = false by simpa using he]
      have e2:v = low - step:=by omega
      exact ⟨_,rfl,⟨v,step * 2,rfl,by omega,by omega,hv1,hv2⟩,by simp only; omega⟩)
   (s:=((i:Int),(ps,rs,fs,ds,()),(tf',td',()),l,a,1,())) ⟨a,1,by rw [set_same ha],by omega,by omega,har.1,har.2⟩
  have hz':gbr_124 i ps rs fs ds tf' td' l a 1 = some z:=hz
  rw [hz']
  rcases hq with ⟨v,low,rfl,g1,g2,g3,g4,g5⟩ | rfl
  ·simp only [Option.bind_some,sumElim_inl,List.length_set,hb,cond_true,Int.toNat_natCast,get_set_self (l:=l) (i:=i) (a:=v) (by omega)]
   obtain ⟨z,hz,w,rfl,w1,w2,w3⟩:=loopL_ind (f:=gbr_508F) (fun z => ∃ w a b:Int,z = ((i:Int),(ps,rs,fs,ds,()),(tf',td',()),l.set i w,a,b,())∧-70368744177664≤a∧a≤70368744177664∧-70368744177664≤b∧b≤70368744177664∧netHi ps rs fs ds tf' td' (l.set i b) i≤0)
    (fun z => (z.2.2.2.2.1 - z.2.2.2.2.2.1).toNat) (fun z => ∃ v:Int,z = (v,())∧-70368744177664≤v∧v≤70368744177664∧netHi ps rs fs ds tf' td' (l.set i v) i≤0) (by
     rintro _ ⟨w,a,b,rfl,q1,q2,q3,q4,q5⟩
     simp only [gbr_508F,gbr_508r,wrap64 (n:=b + 1) (by omega) (by omega),List.length_set,hb,Int.toNat_natCast,get_set_self (l:=l) (i:=i) (a:=w) (by omega),List.set_set]
     by_cases hab:b + 1 < a
     ·have hd:Int.tdiv (a - b) 2 = (a - b) / 2:=Int.tdiv_eq_ediv_of_nonneg (by omega)
      rw [show decide (b + 1 < a) = true by simpa using hab,wrap64 (n:=a - b) (by omega) (by omega),hd,wrap64 (n:=(a - b) / 2) (by omega) (by omega),wrap64 (n:=b + (a - b) / 2) (by omega) (by omega)]
      have hm1:-70368744177664≤b + (a - b) / 2:=by omega
      have hm2:b + (a - b) / 2≤70368744177664:=by omega
      simp only [cond_true,Option.bind_some,A.netHi_eq (hl.set hm1 hm2),get_set_self (l:=l) (i:=i) (a:=b + (a - b) / 2) (by omega)]
      by_cases hc:netHi ps rs fs ds tf' td' (l.set i (b + (a - b) / 2)) i≤0
      ·rw [show decide (netHi ps rs fs ds tf' td' (l.set i (b + (a - b) / 2)) i≤0) = true by simpa using hc]
       exact ⟨_,rfl,⟨_,_,_,rfl,q1,q2,hm1,hm2,hc⟩,by simp only; omega⟩
      ·rw [show decide (netHi ps rs fs ds tf' td' (l.set i (b + (a - b) / 2)) i≤0) = false by simpa using hc]
       exact ⟨_,rfl,⟨_,_,_,rfl,hm1,hm2,q3,q4,q5⟩,by simp only; omega⟩
     ·rw [show decide (b + 1 < a) = false by simpa using hab]
      exact ⟨_,rfl,b,rfl,q3,q4,q5⟩)
    (s:=((i:Int),(ps,rs,fs,ds,()),(tf',td',()),l.set i v,low,v,())) ⟨v,low,v,rfl,g4,g5,g1,g2,g3⟩
   have hz'':gbr_508 i ps rs fs ds tf' td' (l.set i v) low v = some (w,()):=hz
   rw [hz'']
   exact ⟨w,true,rfl,fun _ => ⟨w1,w2,w3⟩⟩
  ·exact ⟨0,false,rfl,fun h => by cases h⟩
end
end Go.V

namespace Go.V
open Go
theorem netL_neg (g h:Nat→Int→Int) (l:List Int) (i:Int):∀ (rs:List RoadT) (k:Nat),netL (fun k p => -g k p) (fun k p => -h k p) l i rs k = -netL g h l i rs k
 | [],k => by simp [netL]
 | r :: rs,k => by
  have:=netL_neg g h l i rs (k + 1)
  simp only [netL,this]
  split
  ·omega
  ·split
   ·omega
   ·split <;> omega
theorem netS_neg (i:Int):∀ (rs:List RoadT) (fl:List Int),netS i rs (fl.map fun q => -q) = -netS i rs fl
 | [],_ => by simp [netS]
 | r :: rs,[] => by simp [netS]
 | r :: rs,q :: fl => by
  have:=netS_neg i rs fl
  simp only [List.map_cons,netS,this]
  split <;> split <;> omega
theorem max_at (D:Nat→Int) (P:Nat→Prop):∀ n:Nat,(∃ i,i < n∧P i)→∃ i,i < n∧P i∧∀ j,j < n→P j→D j≤D i
 | 0,⟨i,h,_⟩ => by omega
 | n + 1,⟨i,h,hp⟩ => by
  by_cases hn:∃ i,i < n∧P i
  ·obtain ⟨i,h1,h2,h3⟩:=max_at D P n hn
   by_cases hc:P n∧D i < D n
   ·refine ⟨n,by omega,hc.1,fun j hj hPj => ?_⟩
    rcases Nat.lt_or_ge j n with hj | hj
    ·have:=h3 j hj hPj; omega
    ·have:j = n:=by omega
     subst this; omega
   ·refine ⟨i,by omega,h2,fun j hj hPj => ?_⟩
    rcases Nat.lt_or_ge j n with hj | hj
    ·exact h3 j hj hPj
    ·have:j = n:=by omega
     subst this
     rcases Int.lt_or_le (D i) (D j) with h | h
     ·exact absurd ⟨hPj,h⟩ hc
     ·exact h
  ·have:i = n:=by
    rcases Nat.lt_or_ge i n with hj | hj
    ·exact absurd ⟨i,hj,hp⟩ hn
    ·omega
   subst this
   refine ⟨i,h,hp,fun j hj hPj => ?_⟩
   rcases Nat.lt_or_ge j i with hj | hj
   ·exact absurd ⟨j,hj,hPj⟩ hn
   ·have:j = i:=by omega
    subst this; omega
def ZeroAt (fix:List Bool) (l:List Int):Prop:=∀ i:Nat,fix[i]? = some true→l[i]? = some 0
section
variable {ps:List PlaceT} {rs:List RoadT} {fs:List FanT} {ds:List DoorT} {tf td tf' td' pr fl:List Int}
theorem cmp {air:List Bool} (hA:AiryOk ps rs air) (hE:EndsIn ps.length rs) (D:Nat→Int) (h0:∀ (i:Nat) (p:PlaceT),ps[i]? = some p→p.2 = true→D i≤0)
  (hs:∀ (u:Nat),air[u]? = some true→0 < D u→(∀ r∈rs,r.2.2.2.2.2.1 = false→(r.1.toNat = u→D r.2.1.toNat≤D u)∧(r.2.1.toNat = u→D r.1.toNat≤D u)) →
   ∀ r∈rs,r.2.2.2.2.2.1 = false→(r.1.toNat = u→D r.2.1.toNat = D u)∧(r.2.1.toNat = u→D r.1.toNat = D u)) :
  ∀ i:Nat,air[i]? = some true→D i≤0:=by
 intro i hi
 rcases Int.lt_or_le 0 (D i) with hpos | h
 ·exfalso
  have hin:=lt_of_get hi
  obtain ⟨w,hw1,hw2,hw3⟩:=max_at D (fun j => air[j]? = some true) air.length ⟨i,hin,hi⟩
  have hm:0 < D w:=by have:=hw3 i hin hi; omega
  have top:∀ j:Nat,air[j]? = some true→D j≤D w:=fun j hj => hw3 j (lt_of_get hj) hj
  have key:∀ u v:Nat,air[u]? = some true→air[v]? = air[u]?→D u = D w→(∃ r∈rs,r.2.2.2.2.2.1 = false∧((r.1.toNat = u∧r.2.1.toNat = v)∨(r.2.1.toNat = u∧r.1.toNat = v)))→D v = D w:=by
   rintro u v hu hv hD ⟨r,hr,hc,he⟩
   have:=hs u hu (by omega) (fun r' hr' hc' => ⟨fun e => by
     have hcl:=hA.closed r' hr' hc'
     rw [e,hu] at hcl
     have:=top _ hcl.symm
     omega,fun e => by
     have hcl:=hA.closed r' hr' hc'
     rw [e,hu] at hcl
     have:=top _ hcl
     omega⟩) r hr hc
   rcases he with ⟨e1,e2⟩ | ⟨e1,e2⟩
   ·have:=this.1 e1; rw [e2] at this; omega
   ·have:=this.2 e1; rw [e2] at this; omega
  have:=hA.least (fun j => ¬(air[j]? = some true∧D j = D w)) (fun j p hp hs2 hj => by
   have:=h0 j p hp hs2; omega) (fun r hr hc => by
   have hcl:=hA.closed r hr hc
   constructor
   ·rintro hn ⟨ha,hd⟩
    exact hn ⟨by rw [hcl]; exact ha,key _ _ ha hcl hd ⟨r,hr,hc,.inr ⟨rfl,rfl⟩⟩⟩
   ·rintro hn ⟨ha,hd⟩
    exact hn ⟨by rw [← hcl]; exact ha,key _ _ ha hcl.symm hd ⟨r,hr,hc,.inl ⟨rfl,rfl⟩⟩⟩) w hw2
  exact this ⟨hw2,rfl⟩
 ·exact h
theorem AirOk.ends (A:AirOk ps rs fs ds tf td tf' td' pr fl):EndsIn ps.length rs:=fun r hr => by
 obtain ⟨g1,g2,g3,g4,g5,_⟩:=A.m.road r hr
 exact ⟨g1,g2,g3,g4,g5⟩
theorem AirOk.zero (A:AirOk ps rs fs ds tf td tf' td' pr fl) {air fix:List Bool} (hA:AiryOk ps rs air) (hF:FixOk ps air fix) {l:List Int} (hz:ZeroAt fix l) (i:Nat) (p:PlaceT) (hp:ps[i]? = some p) (hs:p.2 = true):(pr[i]?).getD 0 = 0∧(l[i]?).getD 0 = 0:=by
 have hi:=lt_of_get hp
 have hpl:=A.m.plen
 obtain ⟨x,hx⟩:=get_of_lt (l:=pr) (k:=i) (by omega)
 have h1:=A.m.surf i p x hp hx hs
 have h2:=hz i (by rw [hF.2 i true p (hA.surf i p hp hs) hp]; simp [hs])
 rw [hx,h2,h1]; simp
theorem AirOk.notfix {air fix:List Bool} (hA:AiryOk ps rs air) (hF:FixOk ps air fix) {D:Nat→Int} (h0:∀ (i:Nat) (p:PlaceT),ps[i]? = some p→p.2 = true→D i≤0) {u:Nat} (hu:air[u]? = some true) (hD:0 < D u):∃ p,ps[u]? = some p∧p.2 = false∧fix[u]? = some false:=by
 have hul:=lt_of_get hu
 have:=hA.len
 obtain ⟨p,hp⟩:=get_of_lt (l:=ps) (k:=u) (by omega)
 have hp2:p.2 = false:=by
  cases h:p.2
  ·rfl
  ·have:=h0 u p hp h; omega
 exact ⟨p,hp,hp2,by rw [hF.2 u true p hu hp,hp2]; rfl⟩
theorem AirOk.above (A:AirOk ps rs fs ds tf td tf' td' pr fl) {air fix:List Bool} (hA:AiryOk ps rs air) (hF:FixOk ps air fix) {l:List Int} (hz:ZeroAt fix l) (hg:∀ j:Nat,fix[j]? = some false→netLo ps rs fs ds tf' td' l j ≥ 0) :
  ∀ i:Nat,air[i]? = some true→(pr[i]?).getD 0≤(l[i]?).getD 0:=by
 have h0:∀ (i:Nat) (p:PlaceT),ps[i]? = some p→p.2 = true→(pr[i]?).getD 0 - (l[i]?).getD 0≤0:=fun i p hp hs => by
  have:=A.zero hA hF hz i p hp hs; omega
 have hflen:=A.m.flen
 intro i hi
 have:=cmp hA A.ends (fun i => (pr[i]?).getD 0 - (l[i]?).getD 0) h0 (fun u hu hD htop r hr hc => by
  obtain ⟨p,hp,hp2,hfu⟩:=AirOk.notfix hA hF (D:=fun i => (pr[i]?).getD 0 - (l[i]?).getD 0) h0 hu hD
  have hg:=hg u hfu
  have hb:=A.m.bal u p hp hp2
  have hle:=netL_le (g:=lowF ps rs fs ds tf' td') (h:=highF ps rs fs ds tf' td') (l:=l) (i:=(u:Int)) (rs:=rs) (fl:=fl) (k0:=0) hflen (fun r hr => (A.ends r hr).2.2.2.2) fun k r q h1 h2 => by
   refine ⟨A.m.closed k r q h1 h2,fun hc => ?_⟩
   have ht:=htop r (List.mem_of_getElem? h1) hc
   rw [Nat.zero_add]
   refine ⟨fun e => (A.low_le h1 h2).1 ?_,fun e => (A.high_ge h1 h2).1 ?_⟩
   ·have:=ht.1 (by omega)
    rw [show r.1.toNat = u by omega]; omega
   ·have:=ht.2 (by omega)
    rw [show r.2.1.toNat = u by omega]; omega
  have hno:¬ netL (lowF ps rs fs ds tf' td') (highF ps rs fs ds tf' td') l u rs 0 < netS u rs fl:=by
   unfold netLo at hg; omega
  obtain ⟨k,hk,rfl⟩:=List.getElem_of_mem hr
  have hkr:=List.getElem?_eq_getElem hk
  obtain ⟨q,hq⟩:=get_of_lt (l:=fl) (k:=k) (by omega)
  have ht:=htop _ hr hc
  obtain ⟨g1,g2,g3,g4,g5⟩:=A.ends _ hr
  constructor
  ·intro e
   have h1:=ht.1 e
   rcases Int.lt_or_le ((pr[rs[k].2.1.toNat]?).getD 0 - (l[rs[k].2.1.toNat]?).getD 0) ((pr[u]?).getD 0 - (l[u]?).getD 0) with hlt | hge
   ·exact absurd (hle.2 ⟨k,_,q,hkr,hq,hc,.inl ⟨by omega,by
     rw [Nat.zero_add]
     exact (A.low_le hkr hq).2 (by rw [e]; omega)⟩⟩) hno
   ·omega
  ·intro e
   have h1:=ht.2 e
   rcases Int.lt_or_le ((pr[rs[k].1.toNat]?).getD 0 - (l[rs[k].1.toNat]?).getD 0) ((pr[u]?).getD 0 - (l[u]?).getD 0) with hlt | hge
   ·exact absurd (hle.2 ⟨k,_,q,hkr,hq,hc,.inr ⟨by omega,by
     rw [Nat.zero_add]
     exact (A.high_ge hkr hq).2 (by rw [e]; omega)⟩⟩) hno
   ·omega) i hi
 omega
theorem AirOk.below (A:AirOk ps rs fs ds tf td tf' td' pr fl) {air fix:List Bool} (hA:AiryOk ps rs air) (hF:FixOk ps air fix) {l:List Int} (hz:ZeroAt fix l) (hg:∀ j:Nat,fix[j]? = some false→netHi ps rs fs ds tf' td' l j≤0) :
  ∀ i:Nat,air[i]? = some true→(l[i]?).getD 0≤(pr[i]?).getD 0:=by
 have h0:∀ (i:Nat) (p:PlaceT),ps[i]? = some p→p.2 = true→(l[i]?).getD 0 - (pr[i]?).getD 0≤0:=fun i p hp hs => by
  have:=A.zero hA hF hz i p hp hs; omega
 have hflen:=A.m.flen
 intro i hi
 have:=cmp hA A.ends (fun i => (l[i]?).getD 0 - (pr[i]?).getD 0) h0 (fun u hu hD htop r hr hc => by
  obtain ⟨p,hp,hp2,hfu⟩:=AirOk.notfix hA hF (D:=fun i => (l[i]?).getD 0 - (pr[i]?).getD 0) h0 hu hD
  have hg:=hg u hfu
  have hb:=A.m.bal u p hp hp2
  have hmap:∀ {k:Nat} {q:Int},(fl.map fun q => -q)[k]? = some q→fl[k]? = some (-q):=fun {k q} h => by
   rw [List.getElem?_map] at h
   cases hf:fl[k]? with
   | none => rw [hf] at h; cases h
   | some x => rw [hf] at h; simp at h; rw [← h]; simp
  have hle:=netL_le (g:=fun k p => -highF ps rs fs ds tf' td' k p) (h:=fun k p => -lowF ps rs fs ds tf' td' k p) (l:=l) (i:=(u:Int)) (rs:=rs) (fl:=fl.map fun q => -q) (k0:=0) (by simpa using hflen) (fun r hr => (A.ends r hr).2.2.2.2) fun k r q h1 h2 => by
   have h2:=hmap h2
   refine ⟨fun hc => by have:=A.m.closed k r _ h1 h2 hc; omega,fun hc => ?_⟩
   have ht:=htop r (List.mem_of_getElem? h1) hc
   simp only [Nat.zero_add]
   refine ⟨fun e => ?_,fun e => ?_⟩
   ·have:=ht.1 (by omega)
    have:=(A.high_ge h1 h2 (p:=(l[r.1.toNat]?).getD 0 - (l[r.2.1.toNat]?).getD 0)).1 (by rw [show r.1.toNat = u by omega]; omega)
    omega
   ·have:=ht.2 (by omega)
    have:=(A.low_le h1 h2 (p:=(l[r.1.toNat]?).getD 0 - (l[r.2.1.toNat]?).getD 0)).1 (by rw [show r.2.1.toNat = u by omega]; omega)
    omega
  rw [netL_neg,netS_neg] at hle
  have hno:¬ -netL (highF ps rs fs ds tf' td') (lowF ps rs fs ds tf' td') l u rs 0 < -netS u rs fl:=by
   unfold netHi at hg; omega
  obtain ⟨k,hk,rfl⟩:=List.getElem_of_mem hr
  have hkr:=List.getElem?_eq_getElem hk
  obtain ⟨q,hq⟩:=get_of_lt (l:=fl) (k:=k) (by omega)
  have hq':(fl.map fun q => -q)[k]? = some (-q):=by rw [List.getElem?_map,hq]; rfl
  have ht:=htop _ hr hc
  obtain ⟨g1,g2,g3,g4,g5⟩:=A.ends _ hr
  constructor
  ·intro e
   have h1:=ht.1 e
   rcases Int.lt_or_le ((l[rs[k].2.1.toNat]?).getD 0 - (pr[rs[k].2.1.toNat]?).getD 0) ((l[u]?).getD 0 - (pr[u]?).getD 0) with hlt | hge
   ·exact absurd (hle.2 ⟨k,_,-q,hkr,hq',hc,.inl ⟨by omega,by
     simp only [Nat.zero_add]
     have:=(A.high_ge hkr hq (p:=(l[rs[k].1.toNat]?).getD 0 - (l[rs[k].2.1.toNat]?).getD 0)).2 (by rw [e]; omega)
     omega⟩⟩) hno
   ·omega
  ·intro e
   have h1:=ht.2 e
   rcases Int.lt_or_le ((l[rs[k].1.toNat]?).getD 0 - (pr[rs[k].1.toNat]?).getD 0) ((l[u]?).getD 0 - (pr[u]?).getD 0) with hlt | hge
   ·exact absurd (hle.2 ⟨k,_,-q,hkr,hq',hc,.inr ⟨by omega,by
     simp only [Nat.zero_add]
     have:=(A.low_le hkr hq (p:=(l[rs[k].1.toNat]?).getD 0 - (l[rs[k].2.1.toNat]?).getD 0)).2 (by rw [e]; omega)
     omega⟩⟩) hno
   ·omega) i hi
 omega
end
end Go.V

namespace Go.V
open Go
section
variable {ps:List PlaceT} {rs:List RoadT} {fs:List FanT} {ds:List DoorT} {tf td tf' td' pr fl:List Int}
def GoodAt (ps:List PlaceT) (rs:List RoadT) (fs:List FanT) (ds:List DoorT) (tf td:List Int) (up:Bool) (l:List Int) (j:Nat):Prop :=
 if up = true then netLo ps rs fs ds tf td l j ≥ 0 else netHi ps rs fs ds tf td l j≤0
theorem AirOk.pass (A:AirOk ps rs fs ds tf td tf' td' pr fl) (up:Bool) {fix:List Bool} {l0:List Int} (hl:InR ps.length l0) (hz:ZeroAt fix l0) (hf:fix.length = ps.length) (n:Int) :
  ∃ z,gbs_64074 up ps rs fs ds tf' td' l0 fix n false 0 = some z∧(z = .inl ([],2,())∨∃ l ch,z = .inr (up,(ps,rs,fs,ds,()),(tf',td',()),l,fix,n,ch,())∧InR ps.length l∧ZeroAt fix l ∧
   (ch = false→∀ j:Nat,fix[j]? = some false→GoodAt ps rs fs ds tf' td' up l j)):=by
 have hnp:=A.m.np
 exact loopL_inv (f:=gbs_64074F) fix (fun k (b:List Int×Bool) => (up,(ps,rs,fs,ds,()),(tf',td',()),b.1,fix,n,b.2,(k:Int),()))
  (fun k b => InR ps.length b.1∧ZeroAt fix b.1∧(b.2 = false→∀ j:Nat,j < k→fix[j]? = some false→GoodAt ps rs fs ds tf' td' up b.1 j))
  _ (by
   rintro k v ⟨l,ch⟩ hv ⟨q1,q2,q3⟩
   simp only at q1 q2 q3
   have hk:=lt_of_get hv
   have hll:=q1.1
   obtain ⟨a,ha⟩:=get_of_lt (l:=l) (k:=k) (by omega)
   have ib:=inb (k:=(k:Int)) (n:=fix.length) (by omega) (by omega)
   have il:=inb (k:=(k:Int)) (n:=l.length) (by omega) (by omega)
   have hw:=wrap_succ hk (show fix.length≤Big by simp [Big]; omega)
   simp only [gbs_64074F,gbs_64074r,show decide ((k:Int) < (l.length:Int)) = true by rw [decide_eq_true_eq]; omega,cond_true,ib,Int.toNat_natCast,hv,Option.bind_some]
   cases v
   ·simp only [cond_false]
    have fin:∀ (p:Int) (ok:Bool),(ok = true→-70368744177664≤p∧p≤70368744177664∧GoodAt ps rs fs ds tf' td' up (l.set k p) k) →
      (∃ b':List Int×Bool,(((gbs_8201511 up ps rs fs ds tf' td' l fix n ch k p ok).bind fun z0 => sumElim z0 (fun z1 => some (.inr (.inl z1))) (fun z2 => some (.inl (z2.1,z2.2.1,z2.2.2.1,z2.2.2.2.1,z2.2.2.2.2.1,z2.2.2.2.2.2.1,z2.2.2.2.2.2.2.1,(IntKind.wrap .i64 (z2.2.2.2.2.2.2.2.1 + 1)),()))):Option ((Bool×(List PlaceT×List RoadT×List FanT×List DoorT×Unit)×(List Int×List Int×Unit)×List Int×List Bool×Int×Bool×Int×Unit) ⊕ ((List Int×Int×Unit) ⊕ (Bool×(List PlaceT×List RoadT×List FanT×List DoorT×Unit)×(List Int×List Int×Unit)×List Int×List Bool×Int×Bool×Unit)))) = some (.inl (up,(ps,rs,fs,ds,()),(tf',td',()),b'.1,fix,n,b'.2,((k + 1:Nat):Int),())) ∧
       (InR ps.length b'.1∧ZeroAt fix b'.1∧(b'.2 = false→∀ j:Nat,j < k + 1→fix[j]? = some false→GoodAt ps rs fs ds tf' td' up b'.1 j)))) ∨
      ∃ r,(((gbs_8201511 up ps rs fs ds tf' td' l fix n ch k p ok).bind fun z0 => sumElim z0 (fun z1 => some (.inr (.inl z1))) (fun z2 => some (.inl (z2.1,z2.2.1,z2.2.2.1,z2.2.2.2.1,z2.2.2.2.2.1,z2.2.2.2.2.2.1,z2.2.2.2.2.2.2.1,(IntKind.wrap .i64 (z2.2.2.2.2.2.2.2.1 + 1)),()))):Option ((Bool×(List PlaceT×List RoadT×List FanT×List DoorT×Unit)×(List Int×List Int×Unit)×List Int×List Bool×Int×Bool×Int×Unit) ⊕ ((List Int×Int×Unit) ⊕ (Bool×(List PlaceT×List RoadT×List FanT×List DoorT×Unit)×(List Int×List Int×Unit)×List Int×List Bool×Int×Bool×Unit)))) = some (.inr r)∧(r = .inl ([],2,())∨∃ l ch,r = .inr (up,(ps,rs,fs,ds,()),(tf',td',()),l,fix,n,ch,())∧InR ps.length l∧ZeroAt fix l ∧
       (ch = false→∀ j:Nat,fix[j]? = some false→GoodAt ps rs fs ds tf' td' up l j))):=by
     intro p ok hp
     cases ok
     ·right
      exact ⟨.inl ([],2,()),rfl,.inl rfl⟩
     ·left
      obtain ⟨p1,p2,p3⟩:=hp rfl
      refine ⟨(l.set k p,ch || (p != a)),?_,q1.set p1 p2,fun j hj => ?_,fun hch j hj hfj => ?_⟩
      ·simp only [gbs_8201511,Bool.not_true,cond_false,il,cond_true,Int.toNat_natCast,ha,Option.bind_some]
       cases ch <;> simp only [cond_true,cond_false,Option.bind_some,sumElim_inr,hw,Bool.true_or,Bool.false_or] <;> rfl
      ·simp only
       rw [List.getElem?_set,if_neg (fun e => by subst e; rw [hv] at hj; cases hj)]; exact q2 j hj
      ·simp only at hch ⊢
       rw [Bool.or_eq_false_iff] at hch
       have hpa:p = a:=by have:=hch.2; simpa using this
       subst hpa
       rw [set_same ha] at p3 ⊢
       by_cases e:j = k
       ·subst e; exact p3
       ·exact q3 hch.1 j (by omega) hfj
    cases up
    ·obtain ⟨p,ok,e,h⟩:=A.down q1 (i:=k) (by omega)
     simp only [cond_false,e,Option.bind_some]
     exact fin p ok fun h' => by
      obtain ⟨h1,h2,h3⟩:=h h'
      exact ⟨h1,h2,by unfold GoodAt; rw [if_neg (by simp)]; exact h3⟩
    ·obtain ⟨p,ok,e,h⟩:=A.up q1 (i:=k) (by omega)
     simp only [cond_true,e,Option.bind_some]
     exact fin p ok fun h' => by
      obtain ⟨h1,h2,h3⟩:=h h'
      exact ⟨h1,h2,by unfold GoodAt; rw [if_pos rfl]; exact h3⟩
   ·left
    refine ⟨(l,ch),by simp only [cond_true,hw]; rfl,q1,q2,fun hch j hj hfj => ?_⟩
    by_cases e:j = k
    ·subst e; rw [hv] at hfj; cases hfj
    ·exact q3 hch j (by omega) hfj)
  (by
   rintro ⟨l,ch⟩ ⟨q1,q2,q3⟩
   simp only at q1 q2 q3
   have hll:=q1.1
   refine ⟨.inr (up,(ps,rs,fs,ds,()),(tf',td',()),l,fix,n,ch,()),by simp only [gbs_64074F,gbs_64074r,show decide ((fix.length:Int) < (l.length:Int)) = false by rw [decide_eq_false_iff_not]; omega,cond_false],.inr ⟨l,ch,rfl,q1,q2,fun hch j hfj => q3 hch j (lt_of_get hfj) hfj⟩⟩) (l0,false)
  ⟨hl,hz,fun _ j hj => by omega⟩
theorem ranged_ok {n:Nat} {l:List Int} (h:InR n l) (hn:n≤1000):gbh l = some (true,()):=by
 have hl:=h.1
 obtain ⟨z,hz,hq⟩:=loopL_inv (f:=gbh_26F) l (fun k (_:Unit) => (l,(k:Int),())) (fun _ _ => True) (fun z => z = .inr ()) (by
   intro k x b hx _
   left
   have hk:=lt_of_get hx
   have:=h.2 x (List.mem_of_getElem? hx)
   refine ⟨(),?_,trivial⟩
   simp only [gbh_26F,gbh_26r,show decide ((k:Int) < (l.length:Int)) = true by rw [decide_eq_true_eq]; omega,cond_true,idx_get hx,Option.bind_some,show decide (x < -70368744177664) = false by rw [decide_eq_false_iff_not]; omega,show decide (x > 70368744177664) = false by rw [decide_eq_false_iff_not]; omega,cond_false,wrap_succ hk (show l.length≤Big by simp [Big]; omega)]; rfl)
  (fun b _ => ⟨_,by simp only [gbh_26F,gbh_26r,show decide ((l.length:Int) < (l.length:Int)) = false by simp,cond_false],rfl⟩) () trivial
 have e:gbh_26 l 0 = some (.inr ()):=by rw [← hq]; exact hz
 simp only [gbh,e,Option.bind_some,sumElim_inr]
theorem AirOk.startOk (A:AirOk ps rs fs ds tf td tf' td' pr fl) {fix:List Bool} {l:List Int} (hF:gbk ps rs = some (fix,())) (hl:InR ps.length l) (hz:ZeroAt fix l) (hf:fix.length = ps.length):gbl ps rs fs ds tf' td' l = some (0,()):=by
 have hnp:=A.m.np
 have hll:=hl.1
 obtain ⟨z,hz,hq⟩:=loopL_inv (f:=gbl_1018F) l (fun k (_:Unit) => (l,fix,(k:Int),())) (fun _ _ => True) (fun z => z = .inr ()) (by
   intro k x b hx _
   left
   have hk:=lt_of_get hx
   obtain ⟨v,hv⟩:=get_of_lt (l:=fix) (k:=k) (by omega)
   refine ⟨(),?_,trivial⟩
   simp only [gbl_1018F,gbl_1018r,show decide ((k:Int) < (l.length:Int)) = true by rw [decide_eq_true_eq]; omega,cond_true,inb (k:=(k:Int)) (n:=fix.length) (by omega) (by omega),Int.toNat_natCast,hv,idx_get hx,Option.bind_some]
   have e:(bif v then some (x != 0) else some false) = some false:=by
    cases v
    ·rfl
    ·have:=hz k hv
     rw [hx] at this; cases this; rfl
   rw [e]
   simp only [Option.bind_some,cond_false,wrap_succ hk (show l.length≤Big by simp [Big]; omega)]; rfl)
  (fun b _ => ⟨_,by simp only [gbl_1018F,gbl_1018r,show decide ((l.length:Int) < (l.length:Int)) = false by simp,cond_false],rfl⟩) () trivial
 have e:gbl_1018 l fix 0 = some (.inr ()):=by rw [← hq]; exact hz
 simp only [gbl,A.check,A.right,Option.bind_some,bne_self_eq_false,cond_false,Bool.not_true,show ((l.length:Int) != (ps.length:Int)) = false by simp; omega,ranged_ok hl (by omega),hF,e,sumElim_inr]
theorem AirOk.relax (A:AirOk ps rs fs ds tf td tf' td' pr fl) (up:Bool) {fix:List Bool} {l:List Int} (hF:gbk ps rs = some (fix,())) (hl:InR ps.length l) (hz:ZeroAt fix l) (hf:fix.length = ps.length) :
  ∃ l' e,gbs ps rs fs ds tf' td' l up = some ((l',e,()),())∧(e = 0→InR ps.length l'∧ZeroAt fix l'∧∀ j:Nat,fix[j]? = some false→GoodAt ps rs fs ds tf' td' up l' j):=by
 have hnp:=A.m.np
 have hll:=hl.1
 obtain ⟨z,hz',hq⟩:=loopL_ind (f:=gbs_250F) (fun z => ∃ (l:List Int) (n:Int),z = (up,(ps,rs,fs,ds,()),(tf',td',()),l,fix,n,())∧InR ps.length l∧ZeroAt fix l∧0≤n∧n≤200)
  (fun z => (200 - z.2.2.2.2.2.1).toNat) (fun z => z = .inl ([],2,())∨z = .inr (.inr ())∨∃ l':List Int,z = .inr (.inl ((),0,l',()))∧InR ps.length l'∧ZeroAt fix l'∧∀ j:Nat,fix[j]? = some false→GoodAt ps rs fs ds tf' td' up l' j) (by
   rintro _ ⟨l,n,rfl,q1,q2,q3,q4⟩
   simp only [gbs_250F,gbs_250r]
   by_cases hn:n < 200
   ·rw [show decide (n < 200) = true by simpa using hn]
    obtain ⟨z,e,h⟩:=A.pass up q1 q2 hf n
    simp only [cond_true,e,Option.bind_some]
    rcases h with rfl | ⟨l',ch,rfl,h1,h2,h3⟩
    ·exact ⟨_,rfl,.inl rfl⟩
    ·simp only [sumElim_inr]
     cases ch
     ·exact ⟨_,rfl,.inr (.inr ⟨l',rfl,h1,h2,h3 rfl⟩)⟩
     ·simp only [Bool.not_true,cond_false,wrap64 (n:=n + 1) (by omega) (by omega)]
      exact ⟨_,rfl,⟨l',n + 1,rfl,h1,h2,by omega,by omega⟩,by simp only; omega⟩
   ·rw [show decide (n < 200) = false by simpa using hn]
    exact ⟨_,rfl,.inr (.inl rfl)⟩)
  (s:=(up,(ps,rs,fs,ds,()),(tf',td',()),l,fix,0,())) ⟨l,0,rfl,hl,hz,by omega,by omega⟩
 have e:gbs_250 up ps rs fs ds tf' td' l fix 0 = some z:=hz'
 simp only [gbs,A.startOk hF hl hz hf,Option.bind_some,bne_self_eq_false,cond_false,show decide ((0 + l.length) * 8≤140737488355328) = true by rw [decide_eq_true_eq]; omega,cond_true,hF,e]
 rcases hq with rfl | rfl | ⟨l',rfl,h⟩
 ·exact ⟨_,_,rfl,fun h => by cases h⟩
 ·exact ⟨_,_,rfl,fun h => by cases h⟩
 ·exact ⟨_,_,rfl,fun _ => h⟩
theorem AirOk.solve (A:AirOk ps rs fs ds tf td tf' td' pr fl) {fix:List Bool} (hF:gbk ps rs = some (fix,())) (hf:fix.length = ps.length) :
  ∃ lo hi e,gbv ps rs fs ds tf' td' = some (((lo,hi,()),e,()),())∧(e = 0→(InR ps.length lo∧ZeroAt fix lo∧∀ j:Nat,fix[j]? = some false→GoodAt ps rs fs ds tf' td' false lo j)∧(InR ps.length hi∧ZeroAt fix hi∧∀ j:Nat,fix[j]? = some false→GoodAt ps rs fs ds tf' td' true hi j)):=by
 have hnp:=A.m.np
 have h0:InR ps.length (List.replicate ps.length 0):=⟨by simp,fun x hx => by rw [List.mem_replicate] at hx; omega⟩
 have z0:ZeroAt fix (List.replicate ps.length 0):=fun i hi => by
  have:=lt_of_get hi
  rw [List.getElem?_replicate,if_pos (by omega)]
 obtain ⟨l1,e1,r1,g1⟩:=A.relax false hF h0 z0 hf
 simp only [gbv,gbt,gbu]
 rw [show (decide (0≤(ps.length:Int)) && (decide ((ps.length:Int)≤(ps.length:Int)) && decide ((ps.length:Int) * ((8:Nat):Int)≤((140737488355328:Nat):Int)))) = true by simp only [Bool.and_eq_true,decide_eq_true_eq]; omega]
 simp only [cond_true,Int.toNat_natCast,r1,Option.bind_some]
 by_cases c1:e1 = 0
 ·subst c1
  obtain ⟨a1,a2,_⟩:=g1 rfl
  obtain ⟨l2,e2,r2,g2⟩:=A.relax true hF a1 a2 hf
  simp only [bne_self_eq_false,cond_false,r2,Option.bind_some]
  by_cases c2:e2 = 0
  ·subst c2
   obtain ⟨b1,b2,b3⟩:=g2 rfl
   obtain ⟨l3,e3,r3,g3⟩:=A.relax false hF b1 b2 hf
   simp only [bne_self_eq_false,cond_false,r3,Option.bind_some]
   by_cases c3:e3 = 0
   ·subst c3
    exact ⟨_,_,_,rfl,fun _ => ⟨g3 rfl,b1,b2,b3⟩⟩
   ·rw [show (e3 != 0) = true by simpa using c3]
    exact ⟨_,_,_,rfl,fun h => absurd h c3⟩
  ·rw [show (e2 != 0) = true by simpa using c2]
   exact ⟨_,_,_,rfl,fun h => absurd h c2⟩
 ·rw [show (e1 != 0) = true by simpa using c1]
  exact ⟨_,_,_,rfl,fun h => absurd h c1⟩
end
end Go.V

namespace Go.V
open Go
section
variable {ps:List PlaceT} {rs:List RoadT} {fs:List FanT} {ds:List DoorT} {tf td tf' td' pr fl:List Int}
structure BoundsOk (ps:List PlaceT) (rs:List RoadT) (fs:List FanT) (ds:List DoorT) (tf' td':List Int) (fix:List Bool) (lo hi:List Int):Prop where
 lr:InR ps.length lo
 lz:ZeroAt fix lo
 lg:∀ j:Nat,fix[j]? = some false→netHi ps rs fs ds tf' td' lo j≤0
 hr:InR ps.length hi
 hz:ZeroAt fix hi
 hg:∀ j:Nat,fix[j]? = some false→netLo ps rs fs ds tf' td' hi j ≥ 0
theorem AirOk.accepted (A:AirOk ps rs fs ds tf td tf' td' pr fl) {fix:List Bool} {lo hi:List Int} (hF:gbk ps rs = some (fix,())) (hf:fix.length = ps.length) (B:BoundsOk ps rs fs ds tf' td' fix lo hi) :
  gbw ps rs fs ds tf' td' lo hi = some (0,()):=by
 have hnp:=A.m.np
 have h1:=B.lr.1
 have h2:=B.hr.1
 obtain ⟨z,hz,hq⟩:=loopL_inv (f:=gbw_2042F) fix (fun k (_:Unit) => ((ps,rs,fs,ds,()),(tf',td',()),(lo,hi,()),(ps.length:Int),fix,(k:Int),())) (fun _ _ => True) (fun z => z = .inr ()) (by
   intro k v b hv _
   left
   have hk:=lt_of_get hv
   obtain ⟨x,hx⟩:=get_of_lt (l:=lo) (k:=k) (by omega)
   obtain ⟨y,hy⟩:=get_of_lt (l:=hi) (k:=k) (by omega)
   have hw:=wrap_succ hk (show fix.length≤Big by simp [Big]; omega)
   refine ⟨(),?_,trivial⟩
   simp only [gbw_2042F,gbw_2042r,show decide ((k:Int) < (ps.length:Int)) = true by rw [decide_eq_true_eq]; omega,cond_true,inb (k:=(k:Int)) (n:=fix.length) (by omega) (by omega),Int.toNat_natCast,hv,idx_get hx,idx_get hy,Option.bind_some,A.netLo_eq B.hr,A.netHi_eq B.lr]
   cases v
   ·have g1:=B.hg k hv
    have g2:=B.lg k hv
    simp only [cond_false,show decide (netLo ps rs fs ds tf' td' hi k < 0) = false by rw [decide_eq_false_iff_not]; omega,show decide (netHi ps rs fs ds tf' td' lo k > 0) = false by rw [decide_eq_false_iff_not]; omega,Option.bind_some,hw]; rfl
   ·have g1:=B.lz k hv
    have g2:=B.hz k hv
    rw [hx] at g1; rw [hy] at g2; cases g1; cases g2
    simp only [cond_true,bne_self_eq_false,cond_false,Option.bind_some,hw]; rfl)
  (fun b _ => ⟨_,by simp only [gbw_2042F,gbw_2042r,show decide ((fix.length:Int) < (ps.length:Int)) = false by rw [decide_eq_false_iff_not]; omega,cond_false],rfl⟩) () trivial
 have e:gbw_2042 ps rs fs ds tf' td' lo hi (ps.length:Int) fix 0 = some (.inr ()):=by rw [← hq]; exact hz
 simp only [gbw,A.check,A.right,Option.bind_some,bne_self_eq_false,cond_false,Bool.not_true,show ((lo.length:Int) != (ps.length:Int)) = false by simp; omega,show ((hi.length:Int) != (ps.length:Int)) = false by simp; omega,ranged_ok B.lr (by omega),ranged_ok B.hr (by omega),hF,e,sumElim_inr]
def Hold (fl:List Int) (us:List (Int×Int)):Prop:=us.length = fl.length∧∀ (k:Nat) (q:Int) (s:Int×Int),fl[k]? = some q→us[k]? = some s→s.1≤q∧q≤s.2
def HoldTo (fl:List Int) (n:Nat) (us:List (Int×Int)):Prop:=us.length = n∧∀ (k:Nat) (q:Int) (s:Int×Int),fl[k]? = some q→us[k]? = some s→s.1≤q∧q≤s.2
theorem HoldTo.snoc {n:Nat} {us:List (Int×Int)} (h:HoldTo fl n us) {q:Int} (hq:fl[n]? = some q) {s:Int×Int} (h1:s.1≤q) (h2:q≤s.2):HoldTo fl (n + 1) (us ++ [s]):=by
 refine ⟨by simp [h.1],fun k q' s' hk hs => ?_⟩
 rcases get_snoc hs with hs | ⟨rfl,rfl⟩
 ·exact h.2 k q' s' hk hs
 ·rw [h.1] at hk
  rw [hq] at hk; cases hk
  exact ⟨h1,h2⟩
theorem AirOk.flows (A:AirOk ps rs fs ds tf td tf' td' pr fl) {air fix:List Bool} {lo hi:List Int} (ha:gbj ps rs = some (air,())) (hA:AiryOk ps rs air) (hF:gbk ps rs = some (fix,())) (hX:FixOk ps air fix) (B:BoundsOk ps rs fs ds tf' td' fix lo hi) :
  ∃ us,gby ps rs fs ds tf' td' lo hi = some (us,())∧Hold fl us:=by
 have hnp:=A.m.np
 have hnr:=A.m.nr
 have hfl:=A.m.flen
 have h1:=B.lr.1
 have h2:=B.hr.1
 have hal:=hA.len
 have hup:=A.above hA hX B.hz B.hg
 have hdn:=A.below hA hX B.lz B.lg
 obtain ⟨z,hz,us,hq,hu⟩:=loopL_inv (f:=gby_250F) rs (fun k (us:List (Int×Int)) => ((ps,rs,fs,ds,()),(tf',td',()),(lo,hi,()),air,us,(k:Int),())) (fun k us => HoldTo fl k us) (fun z => ∃ us,z = (us,())∧HoldTo fl rs.length us) (by
   intro k r us hr hu
   left
   have hk:=lt_of_get hr
   obtain ⟨q,hq⟩:=get_of_lt (l:=fl) (k:=k) (by omega)
   have hqr:=A.m.fr q (List.mem_of_getElem? hq)
   obtain ⟨g1,g2,g3,g4,g5⟩:=A.ends r (List.mem_of_getElem? hr)
   have hw:=wrap_succ hk (show rs.length≤Big by simp [Big]; omega)
   have hul:=hu.1
   have hlen:decide ((us.length + 1) * 16≤140737488355328) = true:=by rw [decide_eq_true_eq]; omega
   simp only [gby_250F,gby_250r,gby_32039,show decide ((k:Int) < (rs.length:Int)) = true by rw [decide_eq_true_eq]; omega,cond_true,idx_get hr,Option.bind_some,hlen,hw]
   cases hc:r.2.2.2.2.2.1
   ·obtain ⟨v,hv⟩:=get_of_lt (l:=air) (k:=r.1.toNat) (by omega)
    simp only [Bool.not_false,cond_true,gbx,Option.bind_some,inb (k:=r.1) (n:=air.length) g1 (by omega),hv]
    cases v
    ·exact ⟨us ++ [(-1125899906842624,1125899906842624)],by simp only [cond_false]; rfl,hu.snoc hq (by simp only; omega) (by simp only; omega)⟩
    ·obtain ⟨a,hla⟩:=get_of_lt (l:=lo) (k:=r.1.toNat) (by omega)
     obtain ⟨b,hhb⟩:=get_of_lt (l:=hi) (k:=r.2.1.toNat) (by omega)
     obtain ⟨c,hhc⟩:=get_of_lt (l:=hi) (k:=r.1.toNat) (by omega)
     obtain ⟨d,hld⟩:=get_of_lt (l:=lo) (k:=r.2.1.toNat) (by omega)
     have ar:=B.lr.2 a (List.mem_of_getElem? hla)
     have br:=B.hr.2 b (List.mem_of_getElem? hhb)
     have cr:=B.hr.2 c (List.mem_of_getElem? hhc)
     have dr:=B.lr.2 d (List.mem_of_getElem? hld)
     have hv2:air[r.2.1.toNat]? = some true:=by rw [← hA.closed r (List.mem_of_getElem? hr) hc]; exact hv
     have u1:=hup _ hv
     have u2:=hup _ hv2
     have d1:=hdn _ hv
     have d2:=hdn _ hv2
     rw [hhc] at u1; rw [hhb] at u2; rw [hla] at d1; rw [hld] at d2
     simp only [Option.getD_some] at u1 u2 d1 d2
     obtain ⟨e1,_⟩:=A.lowest hr (a - b)
     obtain ⟨e2,_⟩:=A.highest hr (c - d)
     refine ⟨us ++ [(lowF ps rs fs ds tf' td' k (a - b),highF ps rs fs ds tf' td' k (c - d))],?_,hu.snoc hq ((A.low_le hr hq).1 (by omega)) ((A.high_ge hr hq).1 (by omega))⟩
     simp only [cond_true,idx_int g1 hla,idx_int g3 hhb,idx_int g1 hhc,idx_int g3 hld,Option.bind_some,wrap64 (n:=a - b) (by omega) (by omega),wrap64 (n:=c - d) (by omega) (by omega),e1,e2]
     rfl
   ·have:=A.m.closed k r q hr hq hc
    exact ⟨us ++ [(0,0)],by simp only [Bool.not_true,cond_false]; rfl,hu.snoc hq (by simp only; omega) (by simp only; omega)⟩)
  (fun us hu => ⟨_,by simp only [gby_250F,gby_250r,show decide ((rs.length:Int) < (rs.length:Int)) = false by simp,cond_false],us,rfl,hu⟩) [] ⟨rfl,fun k q s _ h => by simp at h⟩
 have e:gby_250 ps rs fs ds tf' td' lo hi air [] 0 = some (us,()):=by rw [← hq]; exact hz
 refine ⟨us,?_,by rw [hu.1,hfl],hu.2⟩
 simp only [gby,A.accepted hF hX.1 B,Option.bind_some,bne_self_eq_false,cond_false,ha,e]
theorem AirOk.analyse (A:AirOk ps rs fs ds tf td tf' td' pr fl):∃ us,gbz ps rs fs ds tf' td' = some ((us,0,()),())∧Hold fl us:=by
 have hnp:=A.m.np
 have hnr:=A.m.nr
 have hfl:=A.m.flen
 obtain ⟨air,ha,hA⟩:=airy_ok A.ends (by omega) (by omega)
 obtain ⟨fix,hF,hX⟩:=fixed_ok A.ends (by omega) (by omega) ha hA.len
 obtain ⟨lo,hi,e,hs,hB⟩:=A.solve hF hX.1
 simp only [gbz,A.check,A.right,Option.bind_some,bne_self_eq_false,cond_false,Bool.not_true,hs]
 by_cases he:e = 0
 ·obtain ⟨⟨l1,l2,l3⟩,r1,r2,r3⟩:=hB he
  rw [show (e == 0) = true by simpa using he]
  obtain ⟨us,hu,hh⟩:=A.flows ha hA hF hX (lo:=lo) (hi:=hi) ⟨l1,l2,fun j hj => by have:=l3 j hj; unfold GoodAt at this; rwa [if_neg (by simp)] at this,r1,r2,fun j hj => by have:=r3 j hj; unfold GoodAt at this; rwa [if_pos rfl] at this⟩
  exact ⟨us,by simp only [cond_true,hu,Option.bind_some],hh⟩
 ·rw [show (e == 0) = false by simpa using he]
  obtain ⟨z,hz,us,hq,hu⟩:=loopL_inv (f:=gbz_1018F) rs (fun k (us:List (Int×Int)) => ((ps,rs,fs,ds,()),us,(k:Int),())) (fun k us => HoldTo fl k us) (fun z => ∃ us,z = (us,())∧HoldTo fl rs.length us) (by
    intro k r us hr hu
    left
    have hk:=lt_of_get hr
    obtain ⟨q,hq⟩:=get_of_lt (l:=fl) (k:=k) (by omega)
    have hqr:=A.m.fr q (List.mem_of_getElem? hq)
    have hw:=wrap_succ hk (show rs.length≤Big by simp [Big]; omega)
    have hul:=hu.1
    have hlen:decide ((us.length + 1) * 16≤140737488355328) = true:=by rw [decide_eq_true_eq]; omega
    simp only [gbz_1018F,gbz_1018r,gbz_65171,show decide ((k:Int) < (rs.length:Int)) = true by rw [decide_eq_true_eq]; omega,cond_true,idx_get hr,Option.bind_some,hlen,hw]
    cases hc:r.2.2.2.2.2.1
    ·exact ⟨us ++ [(-1125899906842624,1125899906842624)],by simp only [Bool.not_false,cond_true,gbx,Option.bind_some]; rfl,hu.snoc hq (by simp only; omega) (by simp only; omega)⟩
    ·have:=A.m.closed k r q hr hq hc
     exact ⟨us ++ [(0,0)],by simp only [Bool.not_true,cond_false]; rfl,hu.snoc hq (by simp only; omega) (by simp only; omega)⟩)
   (fun us hu => ⟨_,by simp only [gbz_1018F,gbz_1018r,show decide ((rs.length:Int) < (rs.length:Int)) = false by simp,cond_false],us,rfl,hu⟩) [] ⟨rfl,fun k q s _ h => by simp at h⟩
  have e':gbz_1018 ps rs fs ds [] 0 = some (us,()):=by rw [← hq]; exact hz
  exact ⟨us,by simp only [cond_false,e',Option.bind_some],by rw [hu.1,hfl],hu.2⟩
end
end Go.V

namespace Go.V
open Go
def TrueAt (j:Nat) (s:SensorT) (m:MeasT) (x:Int):Prop:=m.1 = j∧m.2.1 = 5∧m.2.2.1≤x∧x≤m.2.2.2∧x - 4≤m.2.2.1∧m.2.2.2≤x + 4∧-1000≤x∧x≤1000∧(s.2.1 = 1∨s.2.1 = 2→0≤x)
theorem at_true {j:Nat} {s:SensorT} {m:MeasT} {x:Int} (h:TrueAt j s m x) (t:Int) (ht:t≤2147483648):(atS s m t).1≤x∧x≤(atS s m t).2:=by
 obtain ⟨h1,h2,h3,h4,h5,h6,h7,h8,h9⟩:=h
 unfold atS
 cases hb:(eSensor s != 0 || (decide (m.1 < 0) || ((m.2.2.1 == -1125899906842624 && m.2.2.2 == 1125899906842624) || (decide (t < m.2.1) || decide (t - m.2.1 > s.2.2.2.2.2.2.2)))))
 ·simp only [Bool.or_eq_false_iff,bne_eq_false_iff_eq,decide_eq_false_iff_not] at hb
  have hd:=eSensor_drift hb.1
  obtain ⟨_,_,a3,a4⟩:=more_range hd.1 hd.2 (show 0≤t - m.2.1 by omega) (by omega)
  have hmo:moreS s (t - m.2.1) = Int.tdiv (s.2.2.2.2.2.2.1 * (t - m.2.1) + 999) 1000:=rfl
  rw [← hmo] at a3 a4
  simp only [cond_false]
  cases plainK s.2.1
  ·cases hg:(s.2.1 == 1 || s.2.1 == 2)
   ·simp only [cond_false]; omega
   ·have h9:=h9 (by simpa using hg)
    simp only [cond_true,cond_false]; omega
  ·simp only [cond_true]; omega
 ·simp only [cond_true,nothing]; omega
theorem known_true {ss:List SensorT} {ms:List MeasT} {n:Int} {s:SensorT} {m:MeasT} {x:Int} (h0:0≤n) (hs:ss[n.toNat]? = some s) (hm:ms[n.toNat]? = some m) (h:TrueAt n.toNat s m x) (t:Int) (ht:t≤2147483648) :
  (knownS ss ms n t).1≤x∧x≤(knownS ss ms n t).2:=by
 unfold knownS
 rw [hs,hm]
 simp only
 cases (!has n ss.length || (decide (n ≥ (ms.length:Int)) || m.1 != n))
 ·exact at_true h t ht
 ·obtain ⟨_,_,_,_,_,_,h7,h8,_⟩:=h
  simp only [cond_true,nothing]; omega
def Fair (so:Bool) (v:Int):Prop:=(so = true→v ≠ -1)∧(so = false→v ≠ 1)
theorem below_fair {k:Int×Int} {x:Int} (h:k.1≤x∧x≤k.2) (v:Int):Fair (decide (x < v)) (-aboveS k v):=by
 unfold aboveS
 rw [show decide (k.1 > k.2) = false by rw [decide_eq_false_iff_not]; omega]
 simp only [cond_false]
 constructor
 ·intro hs
  rw [decide_eq_true_eq] at hs
  rw [show decide (k.1 ≥ v) = false by rw [decide_eq_false_iff_not]; omega]
  cases decide (k.2 < v) <;> simp
 ·intro hs
  rw [decide_eq_false_iff_not] at hs
  rw [show decide (k.2 < v) = false by rw [decide_eq_false_iff_not]; omega]
  cases decide (k.1 ≥ v) <;> simp
theorem stopped_fair {k:Int×Int} {x:Int} (h:k.1≤x∧x≤k.2):Fair (x != 1) (stoppedS k):=by
 unfold stoppedS
 rw [show decide (k.1 > k.2) = false by rw [decide_eq_false_iff_not]; omega]
 simp only [cond_false]
 constructor
 ·intro hs
  rw [bne_iff_ne] at hs
  rw [show (k.1 == 1 && k.2 == 1) = false by rw [Bool.and_eq_false_iff,beq_eq_false_iff_ne,beq_eq_false_iff_ne]; omega]
  cases (decide (k.1 > 1) || decide (k.2 < 1)) <;> simp
 ·intro hs
  rw [bne_eq_false_iff_eq] at hs
  rw [show (decide (k.1 > 1) || decide (k.2 < 1)) = false by rw [Bool.or_eq_false_iff,decide_eq_false_iff_not,decide_eq_false_iff_not]; omega]
  cases (k.1 == 1 && k.2 == 1) <;> simp
theorem fed_fair {k:Int×Int} {x:Int} (h:k.1≤x∧x≤k.2) (v:Int):Fair (decide (max x (-x) < v)) (-fedS k v):=by
 unfold fedS
 rw [show decide (k.1 > k.2) = false by rw [decide_eq_false_iff_not]; omega]
 simp only [cond_false]
 constructor
 ·intro hs
  rw [decide_eq_true_eq] at hs
  rw [show (decide (v≤0) || (decide (k.1 ≥ v) || decide (k.2≤-v))) = false by simp only [Bool.or_eq_false_iff,decide_eq_false_iff_not]; omega]
  cases (decide (k.1 > -v) && decide (k.2 < v)) <;> simp
 ·intro hs
  rw [decide_eq_false_iff_not] at hs
  rw [show (decide (k.1 > -v) && decide (k.2 < v)) = false by simp only [Bool.and_eq_false_iff,decide_eq_false_iff_not]; omega]
  cases (decide (v≤0) || (decide (k.1 ≥ v) || decide (k.2≤-v))) <;> simp
theorem over_fair {cut clear delay:Int} {w:WatchT} {k:Int×Int} {t x:Int} (h:k.1≤x∧x≤k.2) (h0:(stepS cut clear delay w k t).2 = 0) :
  (x ≥ cut→overS cut (stepS cut clear delay w k t).1.1 k ≠ -1)∧(x < cut→overS cut (stepS cut clear delay w k t).1.1 k ≠ 1):=by
 have e:aboveS k cut = bif decide (k.1 ≥ cut) then 1 else bif decide (k.2 < cut) then -1 else 0:=by
  unfold aboveS
  rw [show decide (k.1 > k.2) = false by rw [decide_eq_false_iff_not]; omega]; rfl
 constructor
 ·intro hx
  have ha:(aboveS k cut != -1) = true:=by
   rw [e,show decide (k.2 < cut) = false by rw [decide_eq_false_iff_not]; omega]
   cases decide (k.1 ≥ cut) <;> rfl
  have ho:(stepS cut clear delay w k t).1.1 = true:=by
   revert h0
   unfold stepS
   rw [ha]
   cases hl:eLevel cut clear delay != 0
   ·simp only [cond_false,cond_true]
    cases (decide (t < 0) || (decide (t > 2147483648) || decide (t < w.2.2)))
    ·simp only [cond_false]
     cases (decide (w.2.2 < 0) || (decide (w.2.2 > 2147483648) || (decide (w.2.1 < -1) || (decide (w.2.1 > w.2.2) || (w.2.1 != -1 && !w.1)))))
     ·intro _; rfl
     ·intro h; cases h
    ·intro h; cases h
   ·intro h
    simp only [cond_true] at h
    rw [h] at hl; cases hl
  rw [ho]
  unfold overS
  cases (aboveS k cut == 1) <;> simp
 ·intro hx
  have ha:(aboveS k cut == 1) = false:=by
   rw [e,show decide (k.1 ≥ cut) = false by rw [decide_eq_false_iff_not]; omega]
   cases decide (k.2 < cut) <;> rfl
  unfold overS
  rw [ha]
  cases (stepS cut clear delay w k t).1.1 <;> simp
section
variable {l:List Int} {ps:List PlaceT} {rs:List RoadT} {fs:List FanT} {ds:List DoorT} {ss:List SensorT} {ks:List CondT} {zs:List ZoneT} {es pr fl:List Int} {us:List (Int×Int)}
theorem means_meas {i:Int} (h:Codes l i) {T:List Int} {ms:List MeasT} {k:Nat} {s:SensorT} {x:Int} (n:Int) (hT:T[k]? = some x) (hx:-1000≤x∧x≤1000) (hm:ms.length≤1000) (hg:s.2.1 = 1∨s.2.1 = 2→0≤x) :
  ∃ m j,gdl_2094287 l i ps rs fs ds ss ks zs es pr fl us T ms k s.1 s.2.1 s.2.2.1 s.2.2.2.1 s.2.2.2.2.1 s.2.2.2.2.2.1 s.2.2.2.2.2.2.1 s.2.2.2.2.2.2.2 n k =
   some ((l,j,()),(ps,rs,fs,ds,ss,ks,zs,es,()),(pr,fl,()),us,T,ms ++ [m],(),n,(k:Int),())∧Codes l j∧TrueAt k s m x:=by
 have hk:=lt_of_get hT
 have hlen:decide ((ms.length + 1) * 32≤140737488355328) = true:=by rw [decide_eq_true_eq]; omega
 obtain ⟨y1,j1,e1,c1,a1,b1⟩:=next_ok h (n:=5) (by omega)
 obtain ⟨y2,j2,e2,c2,a2,b2⟩:=next_ok c1 (n:=5) (by omega)
 simp only [gdl_2094287,gdl_8377151,inb (k:=(k:Int)) (n:=T.length) (by omega) (by omega),cond_true,Int.toNat_natCast,hT,Option.bind_some,gar,hlen]
 cases hst:decide (s.2.1 ≥ 4)
 ·refine ⟨(k,5,x - y1,x + y2),j2,?_,c2,rfl,rfl,by simp only; omega,by simp only; omega,by simp only; omega,by simp only; omega,hx.1,hx.2,hg⟩
  simp only [Bool.not_false,cond_true,e1,Option.bind_some,e2,wrap64 (n:=x - y1) (by omega) (by omega),wrap64 (n:=x + y2) (by omega) (by omega)]
 ·exact ⟨(k,5,x,x),i,by simp only [Bool.not_true,cond_false],h,rfl,rfl,Int.le_refl _,Int.le_refl _,by simp only; omega,by simp only; omega,hx.1,hx.2,hg⟩
theorem means_truth {i:Int} (h:Codes l i) {T:List Int} {ms:List MeasT} {k:Nat} {s:SensorT} {x:Int} (n:Int) (hT:T[k]? = some x) (hx:-1000≤x∧x≤1000) (hm:ms.length≤1000) (hg:s.2.1 = 1∨s.2.1 = 2→0≤x) :
  ∃ m x' j,gdl_1047143 l i ps rs fs ds ss ks zs es pr fl us T ms k s.1 s.2.1 s.2.2.1 s.2.2.2.1 s.2.2.2.2.1 s.2.2.2.2.2.1 s.2.2.2.2.2.2.1 s.2.2.2.2.2.2.2 n k =
   some ((l,j,()),(ps,rs,fs,ds,ss,ks,zs,es,()),(pr,fl,()),us,T.set k x',ms ++ [m],(),n,(k:Int),())∧Codes l j∧TrueAt k s m x':=by
 have hk:=lt_of_get hT
 simp only [gdl_1047143,gar,Option.bind_some]
 cases hst:decide (s.2.1 ≥ 4)
 ·obtain ⟨m,j,e,c,t⟩:=means_meas (ps:=ps) (rs:=rs) (fs:=fs) (ds:=ds) (ss:=ss) (ks:=ks) (zs:=zs) (es:=es) (pr:=pr) (fl:=fl) (us:=us) h n hT hx hm hg
  exact ⟨m,x,j,by simp only [cond_false,e,Option.bind_some,set_same hT],c,t⟩
 ·obtain ⟨y,j1,e1,c1,a1,b1⟩:=next_ok h (n:=2) (by omega)
  obtain ⟨m,j,e,c,t⟩:=means_meas (ps:=ps) (rs:=rs) (fs:=fs) (ds:=ds) (ss:=ss) (ks:=ks) (zs:=zs) (es:=es) (pr:=pr) (fl:=fl) (us:=us) (T:=T.set k y) (s:=s) (x:=y) c1 n (by rw [List.getElem?_set,if_pos rfl,if_pos hk]) (by omega) hm (fun _ => a1)
  exact ⟨m,y,j,by simp only [cond_true,e1,Option.bind_some,inb (k:=(k:Int)) (n:=T.length) (by omega) (by omega),Int.toNat_natCast,hT,e],c,t⟩
def Truths (ss:List SensorT) (T:List Int) (k:Nat) (ms:List MeasT):Prop:=T.length = ss.length∧ms.length = k∧∀ (j:Nat) (s:SensorT) (m:MeasT) (x:Int),j < k→ss[j]? = some s→ms[j]? = some m→T[j]? = some x→TrueAt j s m x
theorem Truths.snoc {T:List Int} {k:Nat} {ms:List MeasT} (h:Truths ss T k ms) {s:SensorT} (hs:ss[k]? = some s) {m:MeasT} {x:Int} (ht:TrueAt k s m x):Truths ss (T.set k x) (k + 1) (ms ++ [m]):=by
 have hk:=lt_of_get hs
 refine ⟨by simp [h.1],by simp [h.2.1],fun j s' m' x' hj h1 h2 h3 => ?_⟩
 rw [List.getElem?_set] at h3
 rcases get_snoc h2 with h2 | ⟨rfl,rfl⟩
 ·have hjl:=lt_of_get h2
  rw [h.2.1] at hjl
  rw [if_neg (by omega)] at h3
  exact h.2.2 j s' m' x' hjl h1 h2 h3
 ·rw [h.2.1,if_pos rfl,if_pos (by rw [h.1]; exact hk)] at h3
  cases h3
  rw [h.2.1] at h1 ⊢
  rw [hs] at h1; cases h1
  exact ht
theorem means_loop {i:Int} (h:Codes l i) (hl:ss.length≤100) (hs:∀ (k:Nat) (s:SensorT),ss[k]? = some s→SenOk s∧(s.2.1 = 3→s.2.2.1 < fl.length)) (hf:∀ q∈fl,-1000≤q∧q≤1000) :
  ∃ T ms j,gdl_4090 l i ps rs fs ds ss ks zs es pr fl us (List.replicate ss.length 0) [] (ss.length:Int) 0 = some ((l,j,()),(ps,rs,fs,ds,ss,ks,zs,es,()),(pr,fl,()),us,T,ms,())∧Codes l j∧Truths ss T ss.length ms:=by
 obtain ⟨z,hz,T,ms,j,hq,c,t⟩:=loopL_inv (f:=gdl_4090F) ss
  (fun k (b:Int×List Int×List MeasT) => ((l,b.1,()),(ps,rs,fs,ds,ss,ks,zs,es,()),(pr,fl,()),us,b.2.1,b.2.2,(),(ss.length:Int),(k:Int),()))
  (fun k b => Codes l b.1∧Truths ss b.2.1 k b.2.2)
  (fun z => ∃ T ms j,z = ((l,j,()),(ps,rs,fs,ds,ss,ks,zs,es,()),(pr,fl,()),us,T,ms,())∧Codes l j∧Truths ss T ss.length ms) (by
   rintro k s ⟨i',T,ms⟩ hks ⟨q1,q2⟩
   left
   simp only at q1 q2
   have hk:=lt_of_get hks
   obtain ⟨hsk,hs3⟩:=hs k s hks
   have hTl:=q2.1
   have hml:=q2.2.1
   obtain ⟨y,j1,e1,c1,a1,b1⟩:=next_ok q1 (n:=120) (by omega)
   obtain ⟨x0,hx0⟩:=get_of_lt (l:=T) (k:=k) (by omega)
   have hw:=wrap_succ hk (show ss.length≤Big by simp [Big]; omega)
   have iT:=inb (k:=(k:Int)) (n:=T.length) (by omega) (by omega)
   have hTy:(T.set k y)[k]? = some y:=by rw [List.getElem?_set,if_pos rfl,if_pos (by omega)]
   simp only [gdl_4090F,gdl_4090r,show decide ((k:Int) < (ss.length:Int)) = true by rw [decide_eq_true_eq]; omega,cond_true,show decide (0≤(k:Int)) = true by rw [decide_eq_true_eq]; omega,show decide ((k:Int) < (T.length:Int)) = true by rw [decide_eq_true_eq]; omega,Bool.and_self,Int.toNat_natCast,hks,Option.bind_some,e1,hx0,List.length_set,hTy]
   cases h3:s.2.1 == 3
   ·obtain ⟨m,x',j,e,c,t⟩:=means_truth (ps:=ps) (rs:=rs) (fs:=fs) (ds:=ds) (ss:=ss) (ks:=ks) (zs:=zs) (es:=es) (pr:=pr) (fl:=fl) (us:=us) (s:=s) (ms:=ms) c1 (ss.length:Int) hTy (by omega) (by omega) (fun _ => a1)
    refine ⟨(j,T.set k x',ms ++ [m]),?_,c,q2.snoc hks t⟩
    simp only [cond_false,e,Option.bind_some,hw,List.set_set]
    rfl
   ·have h3':s.2.1 = 3:=by simpa using h3
    unfold SenOk at hsk
    have hlt:=hs3 h3'
    obtain ⟨q,hq⟩:=get_of_lt (l:=fl) (k:=s.2.2.1.toNat) (by omega)
    have hqr:=hf q (List.mem_of_getElem? hq)
    have hTq:(T.set k q)[k]? = some q:=by rw [List.getElem?_set,if_pos rfl,if_pos (by omega)]
    obtain ⟨m,x',j,e,c,t⟩:=means_truth (ps:=ps) (rs:=rs) (fs:=fs) (ds:=ds) (ss:=ss) (ks:=ks) (zs:=zs) (es:=es) (pr:=pr) (fl:=fl) (us:=us) (s:=s) c1 (ss.length:Int) hTq hqr (show ms.length≤1000 by omega) (fun h => by omega)
    refine ⟨(j,T.set k x',ms ++ [m]),?_,c,q2.snoc hks t⟩
    simp only [cond_true,inb (k:=s.2.2.1) (n:=fl.length) (by omega) (by omega),hq,Option.bind_some,e,hw,List.set_set]
    rfl)
  (by
   rintro ⟨i',T,ms⟩ ⟨q1,q2⟩
   exact ⟨_,by simp only [gdl_4090F,gdl_4090r,show decide ((ss.length:Int) < (ss.length:Int)) = false by simp,cond_false],T,ms,i',rfl,q1,q2⟩) (i,List.replicate ss.length 0,[]) ⟨h,by simp,rfl,fun j s m x hj => by omega⟩
 exact ⟨T,ms,j,by rw [← hq]; exact hz,c,t⟩
end
end Go.V

namespace Go.V
open Go
def CondFair (T fl:List Int) (c:CondT) (v:Int):Prop :=
 (c.1 = 1→∃ x,T[c.2.1.toNat]? = some x∧(x ≥ c.2.2.2.1→v ≠ -1)∧(x < c.2.2.2.1→v ≠ 1)) ∧
 (c.1 = 2→∃ x,T[c.2.1.toNat]? = some x∧Fair (decide (x < c.2.2.1)) v) ∧
 (c.1 = 3→∃ x,T[c.2.1.toNat]? = some x∧Fair (x != 1) v) ∧
 (c.1 = 5→∃ q,fl[c.2.1.toNat]? = some q∧Fair (decide (max q (-q) < c.2.2.1)) v)
section
variable {ps:List PlaceT} {rs:List RoadT} {fs:List FanT} {ds:List DoorT} {ss:List SensorT} {ks:List CondT} {zs:List ZoneT} {es tf td pr fl:List Int}
theorem means_fair {T vs:List Int} {k:Nat} {v:Int} {so:Bool} (hv:vs[k]? = some v) (hf:Fair so v) (n:Int) :
  gdl_8387175 ps rs fs ds ss ks zs es pr fl T vs k so n k = some (.inr ((ps,rs,fs,ds,ss,ks,zs,es,()),(pr,fl,()),T,vs,(),n,(k:Int),())):=by
 have hk:=lt_of_get hv
 simp only [gdl_8387175,inb (k:=(k:Int)) (n:=vs.length) (by omega) (by omega),cond_true,Int.toNat_natCast,hv,Option.bind_some]
 cases so
 ·have:=hf.2 rfl
  simp only [cond_false,Option.bind_some,Bool.not_false,cond_true,show (v == 1) = false by simpa using this]
 ·have:=hf.1 rfl
  simp only [cond_true,cond_false,Option.bind_some,Bool.not_true,show (v == -1) = false by simpa using this]
theorem means_all {T vs:List Int} (hc:∀ c∈ks,0≤c.2.1) (hl:ks.length≤100) (hvl:vs.length = ks.length) (hfl:∀ q∈fl,-1000≤q∧q≤1000) (h:∀ (k:Nat) (c:CondT) (v:Int),ks[k]? = some c→vs[k]? = some v→CondFair T fl c v) :
  gdl_32762 ps rs fs ds ss ks zs es pr fl T vs (ks.length:Int) 0 = some (.inr ()):=by
 obtain ⟨z,hz,hq⟩:=loopL_inv (f:=gdl_32762F) ks (fun k (_:Unit) => ((ps,rs,fs,ds,ss,ks,zs,es,()),(pr,fl,()),T,vs,(),(ks.length:Int),(k:Int),())) (fun _ _ => True) (fun z => z = .inr ()) (by
   intro k c b hk _
   left
   have hkl:=lt_of_get hk
   obtain ⟨v,hv⟩:=get_of_lt (l:=vs) (k:=k) (by omega)
   obtain ⟨h1,h2,h3,h5⟩:=h k c v hk hv
   have h0:=hc c (List.mem_of_getElem? hk)
   have hw:=wrap_succ hkl (show ks.length≤Big by simp [Big]; omega)
   refine ⟨(),?_,trivial⟩
   simp only [gdl_32762F,gdl_32762r,show decide ((k:Int) < (ks.length:Int)) = true by rw [decide_eq_true_eq]; omega,show decide ((k:Int) < (vs.length:Int)) = true by rw [decide_eq_true_eq]; omega,show decide (0≤(k:Int)) = true by rw [decide_eq_true_eq]; omega,Bool.and_self,cond_true,Int.toNat_natCast,hk,hv,Option.bind_some]
   by_cases c2:c.1 = 2
   ·obtain ⟨x,hx,hf⟩:=h2 c2
    have hxl:=lt_of_get hx
    simp only [show (c.1 == 2) = true by simpa using c2,cond_true,inb (k:=c.2.1) (n:=T.length) h0 (by omega),hx,Option.bind_some,means_fair hv hf,sumElim_inr,hw]; rfl
   ·simp only [show (c.1 == 2) = false by simpa using c2,cond_false]
    by_cases c3:c.1 = 3
    ·obtain ⟨x,hx,hf⟩:=h3 c3
     have hxl:=lt_of_get hx
     simp only [show (c.1 == 3) = true by simpa using c3,cond_true,inb (k:=c.2.1) (n:=T.length) h0 (by omega),hx,Option.bind_some,means_fair hv hf,sumElim_inr,hw]; rfl
    ·simp only [show (c.1 == 3) = false by simpa using c3,cond_false]
     by_cases c5:c.1 = 5
     ·obtain ⟨q,hx,hf⟩:=h5 c5
      have hxl:=lt_of_get hx
      have hqr:=hfl q (List.mem_of_getElem? hx)
      have hm:(bif decide (0 - q > q) then 0 - q else q) = max q (-q):=by
       by_cases hn:0 - q > q
       ·rw [show decide (0 - q > q) = true by simpa using hn]; simp only [cond_true]; omega
       ·rw [show decide (0 - q > q) = false by simpa using hn]; simp only [cond_false]; omega
      simp only [show (c.1 == 5) = true by simpa using c5,cond_true,inb (k:=c.2.1) (n:=fl.length) h0 (by omega),hx,Option.bind_some,wrap64 (n:=0 - q) (by omega) (by omega),hm,means_fair hv hf,sumElim_inr,hw]; rfl
     ·simp only [show (c.1 == 5) = false by simpa using c5,cond_false]
      by_cases c1:c.1 = 1
      ·obtain ⟨x,hx,f1,f2⟩:=h1 c1
       have hxl:=lt_of_get hx
       simp only [show (c.1 == 1) = true by simpa using c1,cond_true,inb (k:=c.2.1) (n:=T.length) h0 (by omega),hx,Option.bind_some]
       by_cases hge:x ≥ c.2.2.2.1
       ·simp only [show decide (x ≥ c.2.2.2.1) = true by simpa using hge,show decide (x < c.2.2.2.1) = false by rw [decide_eq_false_iff_not]; omega,cond_true,cond_false,Option.bind_some,show (v == -1) = false by simpa using f1 hge,hw]; rfl
       ·simp only [show decide (x ≥ c.2.2.2.1) = false by simpa using hge,show decide (x < c.2.2.2.1) = true by rw [decide_eq_true_eq]; omega,cond_true,cond_false,Option.bind_some,show (v == 1) = false by simpa using f2 (by omega),hw]; rfl
      ·simp only [show (c.1 == 1) = false by simpa using c1,cond_false,hw]; rfl)
  (fun b _ => ⟨_,by simp only [gdl_32762F,gdl_32762r,show decide ((ks.length:Int) < (ks.length:Int)) = false by simp,cond_false],rfl⟩) () trivial
 rw [← hq]; exact hz
theorem one_fair {c:CondT} (hc:CondOk rs.length ss c) {T:List Int} {ms:List MeasT} (ht:Truths ss T ss.length ms) {us:List (Int×Int)} (hu:Hold fl us) (hfl:fl.length = rs.length) {w:WatchT} (hw:WatchOk w) {t:Int} (h1:9≤t) (h2:t≤2147483648):CondFair T fl c (oneS ss ms us t c w).1:=by
 have hstep:=step_fine hc hw (knownS ss ms c.2.1 t) h1 h2
 unfold CondOk at hc
 obtain ⟨a1,a2,a3,a4,a5,_⟩:=hc
 have kn:c.1 ≠ 5→∃ x,T[c.2.1.toNat]? = some x∧(knownS ss ms c.2.1 t).1≤x∧x≤(knownS ss ms c.2.1 t).2:=fun h5 => by
  have hlt:=a5 h5
  obtain ⟨s,hs⟩:=get_of_lt (l:=ss) (k:=c.2.1.toNat) (by omega)
  obtain ⟨m,hm⟩:=get_of_lt (l:=ms) (k:=c.2.1.toNat) (by rw [ht.2.1]; omega)
  obtain ⟨x,hx⟩:=get_of_lt (l:=T) (k:=c.2.1.toNat) (by rw [ht.1]; omega)
  exact ⟨x,hx,known_true a3 hs hm (ht.2.2 _ s m x (by omega) hs hm hx) t h2⟩
 refine ⟨fun h => ?_,fun h => ?_,fun h => ?_,fun h => ?_⟩
 ·obtain ⟨x,hx,hk⟩:=kn (by omega)
  refine ⟨x,hx,?_⟩
  unfold oneS
  simp only [show (c.1 == 1) = true by simpa using h,cond_true,hstep,bne_self_eq_false,cond_false]
  exact over_fair hk hstep
 ·obtain ⟨x,hx,hk⟩:=kn (by omega)
  refine ⟨x,hx,?_⟩
  unfold oneS
  simp only [show (c.1 == 1) = false by rw [h]; rfl,show (c.1 == 2) = true by simpa using h,cond_true,cond_false]
  exact below_fair hk _
 ·obtain ⟨x,hx,hk⟩:=kn (by omega)
  refine ⟨x,hx,?_⟩
  unfold oneS
  simp only [show (c.1 == 1) = false by rw [h]; rfl,show (c.1 == 2) = false by rw [h]; rfl,show (c.1 == 3) = true by simpa using h,cond_true,cond_false]
  exact stopped_fair hk
 ·have hlt:=a4 h
  obtain ⟨q,hq⟩:=get_of_lt (l:=fl) (k:=c.2.1.toNat) (by omega)
  obtain ⟨s,hs⟩:=get_of_lt (l:=us) (k:=c.2.1.toNat) (by rw [hu.1]; omega)
  refine ⟨q,hq,?_⟩
  unfold oneS fedAt
  simp only [show (c.1 == 1) = false by rw [h]; rfl,show (c.1 == 2) = false by rw [h]; rfl,show (c.1 == 3) = false by rw [h]; rfl,show (c.1 == 4) = false by rw [h]; rfl,show (c.1 == 5) = true by simpa using h,cond_true,cond_false,
   show has c.2.1 us.length = true by unfold has; simp only [Bool.and_eq_true,decide_eq_true_eq]; rw [hu.1]; omega,hs]
  exact fed_fair (hu.2 _ q s hq hs) _
end
theorem cutoffMeans_ok (codes:List Int) (h:∀ x∈codes,0≤x∧x≤255):gdl codes = some (true,()):=by
 unfold gdl
 obtain ⟨l,e0,c0⟩:=new_ok h
 obtain ⟨ps,rs,fs,ds,ss,ks,zs,tf,td,tf',td',pr,fl,j1,e1,c1,S,df,dd⟩:=site_ok c0
 have hk:=S.cl
 have hs:=S.sl
 have hfl:=S.made.flen
 have A:AirOk ps rs fs ds tf td tf' td' pr fl:=⟨S.made,df,dd⟩
 obtain ⟨us,e3,hu⟩:=A.analyse
 obtain ⟨T,ms,j2,e4,c2,ht⟩:=means_loop (ps:=ps) (rs:=rs) (fs:=fs) (ds:=ds) (ss:=ss) (ks:=ks) (zs:=zs) (es:=[1,2,1,3]) (pr:=pr) (fl:=fl) (us:=us) c1 (by omega) (fun k s hks => by
  obtain ⟨a1,a2,a3⟩:=S.sen k s hks
  refine ⟨a2,fun h3 => ?_⟩
  rw [h3] at a3
  have:ofKind rs.length fs.length ds.length 3 = rs.length:=rfl
  omega) S.made.fr
 obtain ⟨ws,j3,e5,c3,w1,w2⟩:=watched_ok (ps:=ps) (rs:=rs) (fs:=fs) (ds:=ds) (ss:=ss) (zs:=zs) (es:=[1,2,1,3]) c2 (show ks.length≤100 by omega)
 obtain ⟨y,j4,e6,c4,a1,b1⟩:=next_ok c3 (n:=9) (by omega)
 have hV:=S.values (ms:=ms) (ws:=ws) (us:=us) (fun k m hm => by
  have hml:=lt_of_get hm
  rw [ht.2.1] at hml
  obtain ⟨s,hs⟩:=get_of_lt (l:=ss) (k:=k) hml
  obtain ⟨x,hx⟩:=get_of_lt (l:=T) (k:=k) (by rw [ht.1]; exact hml)
  obtain ⟨g1,g2,g3,g4,g5,g6,g7,g8,_⟩:=ht.2.2 k s m x hml hs hm hx
  exact ⟨.inr g1,by omega,by omega,.inr ⟨by omega,by omega,by omega⟩⟩) ht.2.1 w1 w2 (show us.length = rs.length by rw [hu.1,hfl]) (t:=9 + y) (by omega) (by omega)
 generalize hvs:List.zipWith (fun c w => (oneS ss ms us (9 + y) c w).1) ks ws = vs at hV
 have hvl:vs.length = ks.length:=by rw [← hvs,List.length_zipWith]; omega
 have hfair:∀ (k:Nat) (c:CondT) (v:Int),ks[k]? = some c→vs[k]? = some v→CondFair T fl c v:=by
  intro k c v hc hv
  obtain ⟨w,hw⟩:=get_of_lt (l:=ws) (k:=k) (by have:=lt_of_get hc; omega)
  rw [← hvs,List.getElem?_zipWith,hc,hw] at hv
  simp only [Option.some.injEq] at hv
  rw [← hv]
  exact one_fair (S.con c (List.mem_of_getElem? hc)) ht hu hfl (w2 w (List.mem_of_getElem? hw)) (by omega) (by omega)
 rw [e0]
 simp only [Option.bind_some]
 rw [e1]
 simp only [Option.bind_some,A.fitsRef,bne_self_eq_false,cond_false,e3]
 rw [show (decide (0≤(ss.length:Int)) && (decide ((ss.length:Int)≤(ss.length:Int)) && decide ((ss.length:Int) * ((8:Nat):Int)≤((140737488355328:Nat):Int)))) = true by simp only [Bool.and_eq_true,decide_eq_true_eq]; omega]
 simp only [cond_true,Int.toNat_natCast,e4,Option.bind_some,e5,e6]
 rw [wrap64 (n:=9 + y) (by omega) (by omega),hV]
 simp only [Option.bind_some,bne_self_eq_false,cond_false,hvl]
 rw [means_all (fun c hc => (S.con c hc).2.2.1) (by omega) hvl S.made.fr hfair]
 simp only [Option.bind_some,sumElim_inr,awake_ok]
end Go.V

