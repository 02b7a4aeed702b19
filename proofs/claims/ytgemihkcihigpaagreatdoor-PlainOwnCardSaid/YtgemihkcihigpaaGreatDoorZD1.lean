/- A stable sort in place, by blocks and rotations: plain, no program in sight. -/
import Derived.Sort.LotA
set_option linter.unusedVariables false
set_option linter.unusedSimpArgs false
set_option maxRecDepth 100000
set_option maxHeartbeats 64000000
namespace Go.Proofs.YtgemihkcihigpaaGreatDoor
section
set_option linter.unusedSectionVars false
open Go.Sort
variable {α:Type} [Inhabited α]
def ltT (lt:α->α->Bool) (tag:α->Nat) (x y:α):Bool:=lt x y || (!lt y x && decide (tag x<tag y))
theorem ltT_right {lt:α->α->Bool} {tag:α->Nat} {x y:α} (h:tag y<tag x):ltT lt tag x y=lt x y:=by
 unfold ltT
 have:¬ tag x<tag y:=by omega
 simp [this]
theorem ltT_swo {lt:α->α->Bool} {tag:α->Nat} (h:SWO lt):SWO (ltT lt tag) where
 irrefl x:=by simp [ltT,h.irrefl]
 trans x y z h1 h2:=by
  unfold ltT at *
  simp only [Bool.or_eq_true,Bool.and_eq_true,Bool.not_eq_true',decide_eq_true_eq] at *
  rcases h1 with h1|⟨h1,t1⟩
  · rcases h2 with h2|⟨h2,t2⟩
    · exact Or.inl (h.trans _ _ _ h1 h2)
    · left
      cases hxz:lt x z with
      | true=>rfl
      | false=>have:=h.ntrans x z y hxz h2;rw [h1] at this;cases this
  · rcases h2 with h2|⟨h2,t2⟩
    · left
      cases hxz:lt x z with
      | true=>rfl
      | false=>have:=h.ntrans y x z h1 hxz;rw [h2] at this;cases this
    · by_cases hxz:lt x z=true
      · exact Or.inl hxz
      · exact Or.inr ⟨h.ntrans _ _ _ h2 h1,by omega⟩
 ntrans x y z h1 h2:=by
  unfold ltT at *
  simp only [Bool.or_eq_false_iff,Bool.and_eq_false_iff,Bool.not_eq_false',decide_eq_false_iff_not] at *
  obtain ⟨a1,b1⟩:=h1
  obtain ⟨a2,b2⟩:=h2
  refine ⟨h.ntrans _ _ _ a1 a2,?_⟩
  by_cases hzx:lt z x=true
  · exact Or.inl hzx
  · right
    have hzx':lt z x=false:=by simpa using hzx
    rcases b1 with b1|b1
    · exfalso
      have:=h.ntrans y z x a2 hzx'
      rw [b1] at this;cases this
    · rcases b2 with b2|b2
      · exfalso
        have:=h.ntrans z x y hzx' a1
        rw [b2] at this;cases this
      · omega
def Cross (tag:α->Nat) (a m b:Nat) (d:Array α):Prop:=∀ i j,a<=i->i<m->m<=j->j<b->tag d[i]!<tag d[j]!
structure Rot (a m b:Nat) (d d':Array α):Prop where
 size:d'.size=d.size
 out:∀ i,i<a \/ b<=i->d'[i]! = d[i]!
 left:∀ i,a<=i->i<a+(b - m)->d'[i]! = d[i+(m - a)]!
 right:∀ i,a+(b - m)<=i->i<b->d'[i]! = d[i - (b - m)]!
structure Exch (a b k:Nat) (d d':Array α):Prop where
 size:d'.size=d.size
 left:∀ i,i<k->d'[a+i]! = d[b+i]!
 right:∀ i,i<k->d'[b+i]! = d[a+i]!
 out:∀ i,(i<a \/ a+k<=i)->(i<b \/ b+k<=i)->d'[i]! = d[i]!
theorem Exch.zero (a b:Nat) (d:Array α):Exch a b 0 d d:=⟨rfl,fun i h=>by omega,fun i h=>by omega,fun _ _ _=>rfl⟩
theorem Exch.succ {a b k n:Nat} {d d':Array α} (h:Exch a b k d d') (hk:k<n) (hab:a+n<=b) (hb:b+n<=d.size):Exch a b (k+1) d (swp d' (a+k) (b+k)):=by
 have hs:=h.size
 have g:=swp_get d' (i:=a+k) (j:=b+k) (by omega) (by omega)
 refine ⟨by rw [swp_size];exact hs,fun i hi=>?_,fun i hi=>?_,fun i h1 h2=>?_⟩
 · rw [g]
   by_cases e:i=k
   · subst e
     first
      | (rw [if_neg (by omega),if_pos rfl];exact h.out _ (by omega) (by omega))
      | (rw [if_pos rfl];exact h.out _ (by omega) (by omega))
   · rw [if_neg (by omega),if_neg (by omega)]
     exact h.left i (by omega)
 · rw [g]
   by_cases e:i=k
   · subst e
     first
      | (rw [if_pos rfl];exact h.out _ (by omega) (by omega))
      | (rw [if_neg (by omega),if_pos rfl];exact h.out _ (by omega) (by omega))
   · rw [if_neg (by omega),if_neg (by omega)]
     exact h.right i (by omega)
 · rw [g,if_neg (by omega),if_neg (by omega)]
   exact h.out i (by omega) (by omega)
def rotT (a m b:Nat) (d0:Array α) (k:Nat):α:=if k<a+(b - m) then d0[k+(m - a)]! else d0[k - (b - m)]!
structure RotI (a m b i j:Nat) (d0 d:Array α):Prop where
 size:d.size=d0.size
 perm:PermIn a b d0 d
 hi:i<=m - a
 hj:j<=b - m
 left:∀ k,m - i<=k->k<m->d[k]! = rotT a m b d0 (k+j)
 right:∀ k,m<=k->k<m+j->d[k]! = rotT a m b d0 (k - i)
 done:∀ k,a<=k->k<b->(k<m - i \/ m+j<=k)->d[k]! = rotT a m b d0 k
theorem RotI.start {a m b:Nat} {d:Array α} (h1:a<=m) (h2:m<=b):RotI a m b (m - a) (b - m) d d where
 size:=rfl
 perm:=permIn_refl d a b
 hi:=Nat.le_refl _
 hj:=Nat.le_refl _
 left:=fun k hk hk2=>by unfold rotT;rw [if_neg (by omega)];congr 1;omega
 right:=fun k hk hk2=>by unfold rotT;rw [if_pos (by omega)];congr 1;omega
 done:=fun k h1 h2 h3=>by omega
theorem RotI.gt {a m b i j:Nat} {d0 d d':Array α} (h:RotI a m b i j d0 d) (ha:a<=m) (hmb:m<=b) (hb:b<=d0.size) (hij:j<i) (e:Exch (m - i) m j d d') (hp:PermIn a b d d'):RotI a m b (i - j) j d0 d' where
 size:=e.size.trans h.size
 perm:=permIn_trans _ _ _ _ _ h.perm hp
 hi:=by have:=h.hi;omega
 hj:=h.hj
 left:=fun k hk hk2=>by
  have:=h.hi
  rw [e.out k (by omega) (by omega)]
  exact h.left k (by omega) hk2
 right:=fun k hk hk2=>by
  have:=h.hi
  have e1:=e.right (k - m) (by omega)
  rw [show m+(k - m)=k by omega] at e1
  rw [e1,h.left _ (by omega) (by omega)]
  congr 1;omega
 done:=fun k h1 h2 h3=>by
  have:=h.hi
  have:=h.hj
  by_cases hk:m - i<=k/\k<m - i+j
  · have e1:=e.left (k - (m - i)) (by omega)
    rw [show m - i+(k - (m - i))=k by omega] at e1
    rw [e1,h.right _ (by omega) (by omega)]
    congr 1;omega
  · rw [e.out k (by omega) (by omega)]
    exact h.done k h1 h2 (by omega)
theorem RotI.lt {a m b i j:Nat} {d0 d d':Array α} (h:RotI a m b i j d0 d) (ha:a<=m) (hmb:m<=b) (hb:b<=d0.size) (hij:i<j) (e:Exch (m - i) (m+j - i) i d d') (hp:PermIn a b d d'):RotI a m b i (j - i) d0 d' where
 size:=e.size.trans h.size
 perm:=permIn_trans _ _ _ _ _ h.perm hp
 hi:=h.hi
 hj:=by have:=h.hj;omega
 left:=fun k hk hk2=>by
  have:=h.hi
  have e1:=e.left (k - (m - i)) (by omega)
  rw [show m - i+(k - (m - i))=k by omega] at e1
  rw [e1,h.right _ (by omega) (by omega)]
  congr 1;omega
 right:=fun k hk hk2=>by
  have:=h.hi
  rw [e.out k (by omega) (by omega)]
  exact h.right k hk (by omega)
 done:=fun k h1 h2 h3=>by
  have:=h.hi
  have:=h.hj
  by_cases hk:m+j - i<=k/\k<m+j
  · have e1:=e.right (k - (m+j - i)) (by omega)
    rw [show m+j - i+(k - (m+j - i))=k by omega] at e1
    rw [e1,h.left _ (by omega) (by omega)]
    congr 1;omega
  · rw [e.out k (by omega) (by omega)]
    exact h.done k h1 h2 (by omega)
theorem RotI.eq {a m b i:Nat} {d0 d d':Array α} (h:RotI a m b i i d0 d) (ha:a<=m) (hmb:m<=b) (e:Exch (m - i) m i d d') (hp:PermIn a b d d'):Rot a m b d0 d'/\PermIn a b d0 d':=by
 have hT:∀ k,a<=k->k<b->d'[k]! = rotT a m b d0 k:=fun k h1 h2=>by
  have:=h.hi
  have:=h.hj
  by_cases hk:m - i<=k/\k<m
  · have e1:=e.left (k - (m - i)) (by omega)
    rw [show m - i+(k - (m - i))=k by omega] at e1
    rw [e1,h.right _ (by omega) (by omega)]
    congr 1;omega
  · by_cases hk2:m<=k/\k<m+i
    · have e1:=e.right (k - m) (by omega)
      rw [show m+(k - m)=k by omega] at e1
      rw [e1,h.left _ (by omega) (by omega)]
      congr 1;omega
    · rw [e.out k (by omega) (by omega)]
      exact h.done k h1 h2 (by omega)
 have hP:=permIn_trans _ _ _ _ _ h.perm hp
 refine ⟨⟨hP.1,hP.2.1,fun k h1 h2=>?_,fun k h1 h2=>?_⟩,hP⟩
 · rw [hT k h1 (by omega)];unfold rotT;rw [if_pos h2]
 · rw [hT k (by omega) h2];unfold rotT;rw [if_neg (by omega)]
theorem Rot.idle {a m b:Nat} {d:Array α} (h:a=m \/ m=b):Rot a m b d d:=by
 refine ⟨rfl,fun _ _=>rfl,fun i h1 h2=>?_,fun i h1 h2=>?_⟩
 · rcases h with rfl|rfl
   · congr 1;omega
   · omega
 · rcases h with rfl|rfl
   · omega
   · congr 1;omega
variable {r:α->α->Bool}
theorem sorted_le (hS:SWO r) {a b i j:Nat} {d:Array α} (h:SortedIn r a b d) (h1:a<=i) (h2:i<=j) (h3:j<b):r d[j]! d[i]! = false:=by
 rcases Nat.lt_or_ge i j with hlt|hge
 · exact h i j h1 hlt h3
 · have:i=j:=by omega
   subst this
   exact hS.irrefl _
structure Cut (r:α->α->Bool) (a start m end_ b:Nat) (d:Array α):Prop where
 o1:a<=start
 o2:start<=m
 o3:m<=end_
 o4:end_<=b
 low:a<start->end_<b->r d[end_]! d[start - 1]! = false
 high:start<m->m<end_->r d[end_ - 1]! d[start]! = true
theorem Cut.cross (hS:SWO r) {a start m end_ b:Nat} {d:Array α} (h:Cut r a start m end_ b d) (s1:SortedIn r a m d) (s2:SortedIn r m b d) :
 ∀ x y,((a<=x/\x<start) \/ (m<=x/\x<end_))->((start<=y/\y<m) \/ (end_<=y/\y<b))->r d[y]! d[x]! = false:=by
 obtain ⟨o1,o2,o3,o4,low,high⟩:=h
 rintro x y (⟨x1,x2⟩|⟨x1,x2⟩) (⟨y1,y2⟩|⟨y1,y2⟩)
 · exact sorted_le hS s1 x1 (by omega) y2
 · have h1:=low (by omega) (by omega)
   have h2:=sorted_le hS s1 x1 (show x<=start - 1 by omega) (by omega)
   have h3:=sorted_le hS s2 (show m<=end_ by omega) y1 y2
   exact hS.ntrans _ _ _ (hS.ntrans _ _ _ h3 h1) h2
 · have h1:=high (by omega) (by omega)
   have h2:=sorted_le hS s1 (show a<=start by omega) y1 y2
   have h3:=sorted_le hS s2 x1 (show x<=end_ - 1 by omega) (by omega)
   cases hyx:r d[y]! d[x]! with
   | false=>rfl
   | true =>
    have h4:=hS.ntrans _ _ _ h3 (hS.asymmA hyx)
    have h5:=hS.ntrans _ _ _ h4 h2
    rw [h1] at h5;cases h5
 · exact sorted_le hS s2 x1 (by omega) y2
structure Parts (r:α->α->Bool) (tag:α->Nat) (a start mid end_ b:Nat) (d:Array α):Prop where
 o1:a<=start
 o2:start<=mid
 o3:mid<=end_
 o4:end_<=b
 s1:SortedIn r a start d
 s2:SortedIn r start mid d
 s3:SortedIn r mid end_ d
 s4:SortedIn r end_ b d
 c1:Cross tag a start mid d
 c2:Cross tag mid end_ b d
 x:∀ i j,a<=i->i<mid->mid<=j->j<b->r d[j]! d[i]! = false
theorem Cut.parts (hS:SWO r) {tag:α->Nat} {a start m mid end_ b:Nat} {d d':Array α} (h:Cut r a start m end_ b d) (hmid:start+(end_ - m)=mid) (s1:SortedIn r a m d) (s2:SortedIn r m b d) (hc:Cross tag a m b d) (ro:Rot start m end_ d d'):Parts r tag a start mid end_ b d':=by
 have hx:=h.cross hS s1 s2
 obtain ⟨o1,o2,o3,o4,low,high⟩:=h
 have g1:∀ i,i<start->d'[i]! = d[i]! := fun i hi=>ro.out i (Or.inl hi)
 have g2:∀ i,start<=i->i<mid->d'[i]! = d[i+(m - start)]! := fun i h1 h2=>ro.left i h1 (by omega)
 have g3:∀ i,mid<=i->i<end_->d'[i]! = d[i - (end_ - m)]! := fun i h1 h2=>ro.right i (by omega) h2
 have g4:∀ i,end_<=i->d'[i]! = d[i]! := fun i hi=>ro.out i (Or.inr hi)
 refine ⟨o1,by omega,by omega,o4,fun i j h1 h2 h3=>?_,fun i j h1 h2 h3=>?_,fun i j h1 h2 h3=>?_,fun i j h1 h2 h3=>?_,fun i j h1 h2 h3 h4=>?_,fun i j h1 h2 h3 h4=>?_,fun i j h1 h2 h3 h4=>?_⟩
 · rw [g1 i (by omega),g1 j (by omega)];exact s1 i j h1 h2 (by omega)
 · rw [g2 i h1 (by omega),g2 j (by omega) h3];exact s2 _ _ (by omega) (by omega) (by omega)
 · rw [g3 i h1 (by omega),g3 j (by omega) h3];exact s1 _ _ (by omega) (by omega) (by omega)
 · rw [g4 i h1,g4 j (by omega)];exact s2 i j (by omega) h2 h3
 · rw [g1 i h2,g2 j h3 h4];exact hc _ _ h1 (by omega) (by omega) (by omega)
 · rw [g3 i h1 h2,g4 j h3];exact hc _ _ (by omega) (by omega) (by omega) h4
 · have hi:∃ x,d'[i]! = d[x]!/\((a<=x/\x<start) \/ (m<=x/\x<end_)):=by
    by_cases e:i<start
    · exact ⟨i,g1 i e,Or.inl ⟨h1,e⟩⟩
    · exact ⟨_,g2 i (by omega) h2,Or.inr (by omega)⟩
   have hj:∃ y,d'[j]! = d[y]!/\((start<=y/\y<m) \/ (end_<=y/\y<b)):=by
    by_cases e:j<end_
    · exact ⟨_,g3 j h3 e,Or.inl (by omega)⟩
    · exact ⟨j,g4 j (by omega),Or.inr (by omega)⟩
   obtain ⟨x,ex,hx1⟩:=hi
   obtain ⟨y,ey,hy1⟩:=hj
   rw [ex,ey]
   exact hx x y hx1 hy1
theorem sorted_idle {a m b:Nat} {d:Array α} (h1:SortedIn r a m d) (h2:SortedIn r m b d) (h:m<=a \/ b<=m):SortedIn r a b d:=fun i j hi hij hj=>by
 rcases h with h|h
 · exact h2 i j (by omega) hij hj
 · exact h1 i j hi hij (by omega)
theorem Parts.first {tag:α->Nat} {a start mid end_ b:Nat} {d d':Array α} (h:Parts r tag a start mid end_ b d) (hb:b<=d.size) (hp:PermIn a mid d d') (hs:SortedIn r a mid d') :
 SortedIn r a mid d'/\SortedIn r mid end_ d'/\SortedIn r end_ b d'/\Cross tag mid end_ b d'/\(∀ i j,a<=i->i<mid->mid<=j->j<b->r d'[j]! d'[i]! = false):=by
 have o3:=h.o3
 have o4:=h.o4
 have g:∀ i,mid<=i->d'[i]! = d[i]! := fun i hi=>hp.2.1 i (Or.inr hi)
 refine ⟨hs,fun i j h1 h2 h3=>?_,fun i j h1 h2 h3=>?_,fun i j h1 h2 h3 h4=>?_,fun i j h1 h2 h3 h4=>?_⟩
 · rw [g i h1,g j (by omega)];exact h.s3 i j h1 h2 h3
 · rw [g i (by omega),g j (by omega)];exact h.s4 i j h1 h2 h3
 · rw [g i h1,g j (by omega)];exact h.c2 i j h1 h2 h3 h4
 · rw [g j h3]
   exact permIn_all d d' a mid (fun x=>r d[j]! x=false) (by omega) hp (fun i hi hi2=>h.x i j hi hi2 h3 h4) i h1 h2
theorem join_sorted {a mid b:Nat} {d d':Array α} (hb:b<=d.size) (hm:a<=mid) (hmb:mid<=b) (h1:SortedIn r a mid d) (hx:∀ i j,a<=i->i<mid->mid<=j->j<b->r d[j]! d[i]! = false) (hp:PermIn mid b d d') (hs:SortedIn r mid b d'):SortedIn r a b d':=by
 have g:∀ i,i<mid->d'[i]! = d[i]! := fun i hi=>hp.2.1 i (Or.inl hi)
 intro i j hi hij hj
 by_cases e:j<mid
 · rw [g i (by omega),g j e];exact h1 i j hi hij e
 · by_cases e2:i<mid
   · rw [g i e2]
     exact permIn_all d d' mid b (fun y=>r y d[i]! = false) hb hp (fun k hk hk2=>hx i k hi e2 hk hk2) j (by omega) hj
   · exact hs i j (by omega) hij hj
theorem permIn_mono' {d d':Array α} {a b a' b':Nat} (h1:a'<=a) (h2:b<=b') (h3:b'<=d.size) (hab:a<=b) (h:PermIn a b d d'):PermIn a' b' d d':=permIn_mono d d' a b a' b' h1 h2 h3 h
def CrossAt (tag:α->Nat) (n c:Nat) (d:Array α):Prop:=∀ i j,i<c->c<=j->j<n->tag d[i]!<tag d[j]!
theorem CrossAt.perm {tag:α->Nat} {n c a b:Nat} {d d':Array α} (h:CrossAt tag n c d) (hn:n=d.size) (hb:b<=n) (hc:c<=a \/ b<=c) (hp:PermIn a b d d'):CrossAt tag n c d':=by
 subst hn
 intro i j hi hj hjn
 have key:∀ (x:Nat),x<d.size->∃ y,y<d.size/\d'[x]! = d[y]!/\((a<=x/\x<b/\a<=y/\y<b) \/ x=y):=fun x hx=>by
  by_cases hin:a<=x/\x<b
  · have:=permIn_all d d' a b (fun v=>∃ y,y<d.size/\v=d[y]!/\a<=y/\y<b) hb hp (fun k h1 h2=>⟨k,by omega,rfl,h1,h2⟩) x hin.1 hin.2
    obtain ⟨y,h1,h2,h3,h4⟩:=this
    exact ⟨y,h1,h2,Or.inl ⟨hin.1,hin.2,h3,h4⟩⟩
  · exact ⟨x,hx,hp.2.1 x (by omega),Or.inr rfl⟩
 obtain ⟨x,hx1,ex,hx2⟩:=key i (by omega)
 obtain ⟨y,hy1,ey,hy2⟩:=key j hjn
 rw [ex,ey]
 exact h x y (by omega) (by omega) hy1
theorem sortedIn_keep {a b p q:Nat} {d d':Array α} {r:α->α->Bool} (h:SortedIn r p q d) (hp:PermIn a b d d') (hd:q<=a \/ b<=p):SortedIn r p q d':=fun i j h1 h2 h3=>by
 rw [hp.2.1 i (by omega),hp.2.1 j (by omega)]
 exact h i j h1 h2 h3
structure InsI (r:α->α->Bool) (tag:α->Nat) (bs n q:Nat) (d0 d:Array α):Prop where
 perm:PermIn 0 n d0 d
 cut:∀ p,CrossAt tag n (p * bs) d
 sort:∀ p,p<q->SortedIn r (p * bs) (min ((p+1) * bs) n) d
 rest:∀ i,q * bs<=i->d[i]! = d0[i]!
theorem InsI.start {r:α->α->Bool} {tag:α->Nat} {bs n:Nat} {d0:Array α} (hn:n=d0.size) (ht:∀ i j,i<j->j<n->tag d0[i]!<tag d0[j]!):InsI r tag bs n 0 d0 d0 where
 perm:=permIn_refl d0 0 n
 cut:=fun p i j h1 h2 h3=>ht i j (by omega) h3
 sort:=fun p h=>by omega
 rest:=fun _ _=>rfl
theorem InsI.step {r:α->α->Bool} {tag:α->Nat} {bs n q b:Nat} {d0 d d':Array α} (h:InsI r tag bs n q d0 d) (hn:n=d0.size) (hbn:b=min ((q+1) * bs) n) (hp:PermIn (q * bs) b d d') (hs:SortedIn r (q * bs) b d') (hq:q * bs<=n):InsI r tag bs n (q+1) d0 d':=by
 have hm:(q+1) * bs=q * bs+bs:=by rw [Nat.add_mul,Nat.one_mul]
 have hsz:=h.perm.1
 refine ⟨permIn_trans _ _ _ _ _ h.perm (permIn_mono' (by omega) (by omega) (by omega) (by omega) hp),fun p=>(h.cut p).perm (by omega) (by omega) ?_ hp,fun p hpq=>?_,fun i hi=>?_⟩
 · rcases Nat.lt_or_ge q p with h1|h1
   · right
     have:(q+1) * bs<=p * bs:=Nat.mul_le_mul_right _ h1
     omega
   · left
     exact Nat.mul_le_mul_right _ h1
 · rcases Nat.lt_or_ge p q with h1|h1
   · refine sortedIn_keep (h.sort p h1) hp (Or.inl ?_)
     have:(p+1) * bs<=q * bs:=Nat.mul_le_mul_right _ h1
     omega
   · obtain rfl:p=q:=by omega
     rw [<- hbn];exact hs
 · rw [hp.2.1 i (Or.inr (by omega))]
   exact h.rest i (by omega)
structure Blocks (r:α->α->Bool) (tag:α->Nat) (bs n:Nat) (d0 d:Array α):Prop where
 perm:PermIn 0 n d0 d
 cut:∀ p,CrossAt tag n (p * bs) d
 sort:∀ p,SortedIn r (p * bs) (min ((p+1) * bs) n) d
theorem InsI.blocks {r:α->α->Bool} {tag:α->Nat} {bs n q:Nat} {d0 d:Array α} (h:InsI r tag bs n q d0 d) (hq:n<=q * bs):Blocks r tag bs n d0 d:=by
 refine ⟨h.perm,h.cut,fun p=>?_⟩
 rcases Nat.lt_or_ge p q with h1|h1
 · exact h.sort p h1
 · intro i j hi hij hj
   have:q * bs<=p * bs:=Nat.mul_le_mul_right _ h1
   omega
structure MergeI (r:α->α->Bool) (tag:α->Nat) (bs n q:Nat) (d0 d:Array α):Prop where
 perm:PermIn 0 n d0 d
 cut2:∀ p,CrossAt tag n (p * (2 * bs)) d
 cut1:∀ p,2 * q<=p->CrossAt tag n (p * bs) d
 lo:∀ p,p<q->SortedIn r (p * (2 * bs)) (min ((p+1) * (2 * bs)) n) d
 hi:∀ p,2 * q<=p->SortedIn r (p * bs) (min ((p+1) * bs) n) d
theorem two_mul' (p bs:Nat):p * (2 * bs)=(2 * p) * bs:=by rw [<- Nat.mul_assoc,Nat.mul_comm p 2]
theorem Blocks.merge {r:α->α->Bool} {tag:α->Nat} {bs n:Nat} {d0 d:Array α} (h:Blocks r tag bs n d0 d):MergeI r tag bs n 0 d0 d where
 perm:=h.perm
 cut2:=fun p=>by rw [two_mul'];exact h.cut _
 cut1:=fun p _=>h.cut p
 lo:=fun p hp=>by omega
 hi:=fun p _=>h.sort p
theorem MergeI.step {r:α->α->Bool} {tag:α->Nat} {bs n q b:Nat} {d0 d d':Array α} (h:MergeI r tag bs n q d0 d) (hn:n=d0.size) (hbn:b=min ((q+1) * (2 * bs)) n) (hp:PermIn (q * (2 * bs)) b d d') (hs:SortedIn r (q * (2 * bs)) b d') (hq:q * (2 * bs)<=n):MergeI r tag bs n (q+1) d0 d':=by
 have hm:(q+1) * (2 * bs)=q * (2 * bs)+2 * bs:=by rw [Nat.add_mul,Nat.one_mul]
 have hsz:=h.perm.1
 have e2:(2 * (q+1)) * bs=(q+1) * (2 * bs):=(two_mul' _ _).symm
 refine ⟨permIn_trans _ _ _ _ _ h.perm (permIn_mono' (by omega) (by omega) (by omega) (by omega) hp),fun p=>(h.cut2 p).perm (by omega) (by omega) ?_ hp,fun p hp2=>(h.cut1 p (by omega)).perm (by omega) (by omega) ?_ hp,fun p hpq=>?_,fun p hp2=>?_⟩
 · rcases Nat.lt_or_ge q p with h1|h1
   · right
     have:(q+1) * (2 * bs)<=p * (2 * bs):=Nat.mul_le_mul_right _ h1
     omega
   · left
     exact Nat.mul_le_mul_right _ h1
 · right
   have:(2 * (q+1)) * bs<=p * bs:=Nat.mul_le_mul_right _ hp2
   omega
 · rcases Nat.lt_or_ge p q with h1|h1
   · refine sortedIn_keep (h.lo p h1) hp (Or.inl ?_)
     have:(p+1) * (2 * bs)<=q * (2 * bs):=Nat.mul_le_mul_right _ h1
     omega
   · obtain rfl:p=q:=by omega
     rw [<- hbn];exact hs
 · refine sortedIn_keep (h.hi p (by omega)) hp (Or.inr ?_)
   have:(2 * (q+1)) * bs<=p * bs:=Nat.mul_le_mul_right _ hp2
   omega
theorem MergeI.pair {r:α->α->Bool} {tag:α->Nat} {bs n q b:Nat} {d0 d:Array α} (h:MergeI r tag bs n q d0 d) (hm:q * (2 * bs)+bs<=n) (hbn:b=min ((q+1) * (2 * bs)) n) :
 SortedIn r (q * (2 * bs)) (q * (2 * bs)+bs) d/\SortedIn r (q * (2 * bs)+bs) b d/\Cross tag (q * (2 * bs)) (q * (2 * bs)+bs) b d:=by
 have e0:q * (2 * bs)=(2 * q) * bs:=two_mul' _ _
 have e1:(2 * q+1) * bs=q * (2 * bs)+bs:=by rw [Nat.add_mul,Nat.one_mul,e0]
 have e2:(2 * q+1+1) * bs=(q+1) * (2 * bs):=by rw [Nat.add_mul (2 * q+1),e1,Nat.add_mul q 1,Nat.one_mul,Nat.one_mul];omega
 have s1:=h.hi (2 * q) (Nat.le_refl _)
 have s2:=h.hi (2 * q+1) (by omega)
 rw [<- e0,e1,Nat.min_eq_left (by omega)] at s1
 rw [e1,e2,<- hbn] at s2
 have c:=h.cut1 (2 * q+1) (by omega)
 rw [e1] at c
 exact ⟨s1,s2,fun i j h1 h2 h3 h4=>c i j h2 h3 (by omega)⟩
theorem MergeI.blocks {r:α->α->Bool} {tag:α->Nat} {bs n q:Nat} {d0 d:Array α} (h:MergeI r tag bs n q d0 d) (hq:n<=q * (2 * bs)):Blocks r tag (2 * bs) n d0 d:=by
 refine ⟨h.perm,h.cut2,fun p=>?_⟩
 rcases Nat.lt_or_ge p q with h1|h1
 · exact h.lo p h1
 · intro i j hi hij hj
   have:q * (2 * bs)<=p * (2 * bs):=Nat.mul_le_mul_right _ h1
   omega
theorem MergeI.last {r:α->α->Bool} {tag:α->Nat} {bs n q:Nat} {d0 d:Array α} (h:MergeI r tag bs n q d0 d) (hn:n=d0.size) (hq:q * (2 * bs)<=n) (hm:n<=q * (2 * bs)+bs):MergeI r tag bs n (q+1) d0 d:=by
 have e0:q * (2 * bs)=(2 * q) * bs:=two_mul' _ _
 have s1:=h.hi (2 * q) (Nat.le_refl _)
 have e1:(2 * q+1) * bs=q * (2 * bs)+bs:=by rw [Nat.add_mul,Nat.one_mul,e0]
 rw [<- e0,e1,Nat.min_eq_right hm] at s1
 refine h.step hn (b:=n) ?_ (permIn_refl d _ _) s1 hq
 rw [Nat.add_mul,Nat.one_mul];omega
theorem Blocks.done {r:α->α->Bool} {tag:α->Nat} {bs n:Nat} {d0 d:Array α} (h:Blocks r tag bs n d0 d) (hb:n<=bs):SortedIn r 0 n d:=by
 have s:=h.sort 0
 rw [Nat.zero_mul,Nat.zero_add,Nat.one_mul,Nat.min_eq_right hb] at s
 exact s
structure Search (r:α->α->Bool) (s0 r0 p s t:Nat) (d:Array α):Prop where
 o1:s0<=s
 o2:s<=t
 o3:t<=r0
 low:s=s0 \/ r d[p - (s - 1)]! d[s - 1]! = false
 high:t=r0 \/ r d[p - t]! d[t]! = true
theorem Search.start {r:α->α->Bool} {s0 r0 p:Nat} {d:Array α} (h:s0<=r0):Search r s0 r0 p s0 r0 d:=⟨Nat.le_refl _,h,Nat.le_refl _,Or.inl rfl,Or.inl rfl⟩
theorem Search.up {r:α->α->Bool} {s0 r0 p s t c:Nat} {d:Array α} (h:Search r s0 r0 p s t d) (h1:s<=c) (h2:c<t) (hr:r d[p - c]! d[c]! = false):Search r s0 r0 p (c+1) t d :=
 ⟨by have:=h.o1;omega,by omega,h.o3,Or.inr (by simpa using hr),h.high⟩
theorem Search.down {r:α->α->Bool} {s0 r0 p s t c:Nat} {d:Array α} (h:Search r s0 r0 p s t d) (h1:s<=c) (h2:c<t) (hr:r d[p - c]! d[c]! = true):Search r s0 r0 p s c d :=
 ⟨h.o1,h1,by have:=h.o3;omega,h.low,Or.inr hr⟩
theorem Search.cut {r:α->α->Bool} {a m b s0 r0 s mid:Nat} {d:Array α} (h:Search r s0 r0 (mid+m - 1) s s d) (hmid:mid=(a+b) / 2) (h1:a<m) (h2:m<b)
 (hb:(mid<m/\s0=mid+m - b/\r0=mid) \/ (m<=mid/\s0=a/\r0=m)):Cut r a s m (mid+m - s) b d:=by
 obtain ⟨o1,_,o3,low,high⟩:=h
 refine ⟨by omega,by omega,by omega,by omega,fun ha hend=>?_,fun hs hend=>?_⟩
 · rcases low with low|low
   · omega
   · rw [show mid+m - s=mid+m - 1 - (s - 1) by omega];exact low
 · rcases high with high|high
   · omega
   · rw [show mid+m - s - 1=mid+m - 1 - s by omega];exact high
theorem Rot.bubble_up {a k:Nat} {d d':Array α} (h:Rot a (a+1) (k+1) d d') (hk:k+1<d.size) (ha:a<=k):Rot a (a+1) (k+2) d (swp d' k (k+1)):=by
 have hs:=h.size
 have g:=swp_get d' (i:=k) (j:=k+1) (by omega) (by omega)
 have ek:d'[k]! = d[a]! := by
  have:=h.right k (by omega) (by omega)
  rw [this];congr 1;omega
 have ek1:d'[k+1]! = d[k+1]! := h.out _ (Or.inr (Nat.le_refl _))
 refine ⟨by rw [swp_size];exact hs,fun i hi=>?_,fun i h1 h2=>?_,fun i h1 h2=>?_⟩
 · rw [g,if_neg (by omega),if_neg (by omega)]
   exact h.out i (by omega)
 · rw [g,if_neg (by omega)]
   by_cases e:i=k
   · subst e;rw [if_pos rfl,ek1];congr 1;omega
   · rw [if_neg e];exact h.left i h1 (by omega)
 · obtain rfl:i=k+1:=by omega
   rw [g,if_pos rfl,ek];congr 1;omega
theorem Rot.bubble_down {m k:Nat} {d d':Array α} (h:Rot (k+1) m (m+1) d d') (hm:m<d.size) (hk:k<m):Rot k m (m+1) d (swp d' (k+1) k):=by
 have hs:=h.size
 have g:=swp_get d' (i:=k+1) (j:=k) (by omega) (by omega)
 have ek:d'[k+1]! = d[m]! := by
  have:=h.left (k+1) (Nat.le_refl _) (by omega)
  rw [this];congr 1;omega
 have ek1:d'[k]! = d[k]! := h.out _ (Or.inl (by omega))
 refine ⟨by rw [swp_size];exact hs,fun i hi=>?_,fun i h1 h2=>?_,fun i h1 h2=>?_⟩
 · rw [g,if_neg (by omega),if_neg (by omega)]
   exact h.out i (by omega)
 · obtain rfl:i=k:=by omega
   rw [g,if_pos rfl,ek];congr 1;omega
 · rw [g,if_neg (by omega)]
   by_cases e:i=k+1
   · subst e;rw [if_pos rfl,ek1];congr 1;omega
   · rw [if_neg e];exact h.right i (by omega) h2
theorem single_left {r:α->α->Bool} (hS:SWO r) {a b i:Nat} {d d':Array α} (h1:a+1<=i) (h2:i<=b) (s:SortedIn r (a+1) b d) (lo:i=a+1 \/ r d[i - 1]! d[a]! = true) (hi:i=b \/ r d[i]! d[a]! = false) (ro:Rot a (a+1) i d d'):SortedIn r a b d':=by
 have g1:∀ k,a<=k->k<i - 1->d'[k]! = d[k+1]! := fun k ha hk=>by rw [ro.left k ha (by omega)];congr 1;omega
 have g2:d'[i - 1]! = d[a]! := by rw [ro.right (i - 1) (by omega) (by omega)];congr 1;omega
 have g3:∀ k,i<=k->d'[k]! = d[k]! := fun k hk=>ro.out k (Or.inr hk)
 intro p q hp hpq hq
 rcases (show q<i - 1 \/ q=i - 1 \/ i<=q by omega) with h|rfl|h
 · rw [g1 p hp (by omega),g1 q (by omega) h];exact s _ _ (by omega) (by omega) (by omega)
 · rw [g2,g1 p hp hpq]
   have hl:r d[i - 1]! d[a]! = true:=by rcases lo with lo|lo;· omega
                                        · exact lo
   have h3:=sorted_le hS s (show a+1<=p+1 by omega) (show p+1<=i - 1 by omega) (by omega)
   cases h4:r d[a]! d[p+1]! with
   | false=>rfl
   | true=>have:=hS.trans _ _ _ hl h4;rw [h3] at this;cases this
 · rw [g3 q h]
   rcases (show p<i - 1 \/ p=i - 1 \/ i<=p by omega) with h5|rfl|h5
   · rw [g1 p hp h5];exact s _ _ (by omega) (by omega) hq
   · rw [g2]
     have hr:r d[i]! d[a]! = false:=by rcases hi with hi|hi;· omega
                                       · exact hi
     exact hS.ntrans _ _ _ (sorted_le hS s (by omega) h hq) hr
   · rw [g3 p h5];exact s _ _ (by omega) hpq hq
theorem single_right {r:α->α->Bool} (hS:SWO r) {a m i:Nat} {d d':Array α} (h1:a<=i) (h2:i<=m) (s:SortedIn r a m d) (lo:i=a \/ r d[m]! d[i - 1]! = false) (hi:i=m \/ r d[m]! d[i]! = true) (ro:Rot i m (m+1) d d'):SortedIn r a (m+1) d':=by
 have g0:∀ k,k<i->d'[k]! = d[k]! := fun k hk=>ro.out k (Or.inl hk)
 have g1:d'[i]! = d[m]! := by rw [ro.left i (Nat.le_refl _) (by omega)];congr 1;omega
 have g2:∀ k,i<k->k<m+1->d'[k]! = d[k - 1]! := fun k h3 h4=>by rw [ro.right k (by omega) h4];congr 1;omega
 intro p q hp hpq hq
 rcases (show q<i \/ q=i \/ i<q by omega) with h|rfl|h
 · rw [g0 p (by omega),g0 q h];exact s _ _ hp hpq (by omega)
 · rw [g1,g0 p hpq]
   have hl:r d[m]! d[q - 1]! = false:=by rcases lo with lo|lo;· omega
                                         · exact lo
   exact hS.ntrans _ _ _ hl (sorted_le hS s hp (by omega) (by omega))
 · rw [g2 q h hq]
   rcases (show p<i \/ p=i \/ i<p by omega) with h5|rfl|h5
   · rw [g0 p h5];exact s _ _ hp (by omega) (by omega)
   · rw [g1]
     have hr:r d[m]! d[p]! = true:=by rcases hi with hi|hi;· omega
                                      · exact hi
     have h3:=sorted_le hS s hp (show p<=q - 1 by omega) (by omega)
     cases h4:r d[q - 1]! d[m]! with
     | false=>rfl
     | true=>have:=hS.trans _ _ _ h4 hr;rw [h3] at this;cases this
   · rw [g2 p h5 (by omega)];exact s _ _ (by omega) (by omega) (by omega)
end
end Go.Proofs.YtgemihkcihigpaaGreatDoor
