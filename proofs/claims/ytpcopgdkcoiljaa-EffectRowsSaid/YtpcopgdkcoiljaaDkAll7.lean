/- EffectRows: any program's rows by any effects, and whether its functions keep them. -/
import Derived.Test.YtpcopgdkcoiljaaDkAll6
set_option linter.unusedSimpArgs false
set_option linter.unusedVariables false
namespace Go.Am.Ef
open Go.Am
variable {P : Prog}
set_option maxRecDepth 20000
set_option maxHeartbeats 1000000
theorem ldL {l : List U64} {i : Nat} (h : i < l.length) : ((dropN i (l.flatMap Enc.cells)).bind fun r => takeN 1 r) = some [.int .u64 ((l.getD i default).n : Nat)]:=by
 refine sub1 ?_
 induction l generalizing i with
 | nil => simp at h
 | cons a l ih =>
  cases i with
  | zero => rfl
  | succ i => exact ih (by simpa using h)
theorem first_det {α : Type} {q : Nat → Option α} {i j : Nat} {a b : α} (h1 : ∀ k,k < i → q k = none) (h2 : q i = some a) (k1 : ∀ k,k < j → q k = none) (k2 : q j = some b) : i = j ∧ a = b:=by
 rcases Nat.lt_trichotomy i j with h | h | h
 ·rw [k1 i h] at h2; simp at h2
 ·subst h; rw [h2] at k2; exact ⟨rfl,Option.some.inj k2⟩
 ·rw [h1 j h] at k2; simp at k2
theorem badA_same {names : List (List UInt8)} {p : ProgV} (hm : mayP p = true) {R S : Nat → Nat} (h : ∀ f,f < p.fns.length → R f = S f) {i : Nat} (hi : i < p.fns.length) : badA names R p i = badA names S p i:=by
 have hdm:=deedsF_may hm _ (slv_get hi)
 unfold badA badD
 rw [h i hi]
 generalize deedsF (p.fns.getD i default) = l at hdm
 have : ∀ l : List Deed,(∀ d ∈ l,d.fn = -1 ∨ (0 ≤ d.fn ∧ d.fn < (p.fns.length : Nat))) → l.findIdx? (fun d => !decide (needR names R d ||| S i = S i)) = l.findIdx? (fun d => !decide (needR names S d ||| S i = S i)):=fun l => by
  induction l with
  | nil => intro _; rfl
  | cons d l ih =>
   intro hl
   have e : needR names R d = needR names S d:=by
    unfold needR
    split
    ·have:=hl d List.mem_cons_self
     exact h _ (by omega)
    ·rfl
   rw [List.findIdx?_cons,List.findIdx?_cons,e,ih (fun d hd => hl d (List.mem_cons_of_mem _ hd))]
 exact this l hdm
theorem checkR_det {names : List (List UInt8)} {p : ProgV} {v w : AV} (h : CheckR names p v) (k : CheckR names p w) : v = w:=by
 rcases h with ⟨hm,rfl⟩ | ⟨hm,i,pos,hi,hj,hb,rfl⟩ | ⟨hm,hall,R,HL,h⟩
 ·rcases k with ⟨-,rfl⟩ | ⟨hm', -⟩ | ⟨hm', -⟩
  ·rfl
  ·rw [hm] at hm'; simp at hm'
  ·rw [hm] at hm'; simp at hm'
 ·rcases k with ⟨hm', -⟩ | ⟨-,i',pos',hi',hj',hb',rfl⟩ | ⟨-,hall', -⟩
  ·rw [hm] at hm'; simp at hm'
  ·obtain ⟨rfl,rfl⟩:=first_det (q:=fun j => badF names (p.fns.getD j default)) hj hb hj' hb'
   rfl
  ·rw [hall' _ (slv_get hi)] at hb; simp at hb
 ·rcases k with ⟨hm', -⟩ | ⟨-,i',pos',hi',hj',hb',rfl⟩ | ⟨-, -,R',HL',k⟩
  ·rw [hm] at hm'; simp at hm'
  ·rw [hall _ (slv_get hi')] at hb'; simp at hb'
  ·have hu : ∀ f,f < p.fns.length → R' f = R f:=HL'.unique HL
   rcases h with ⟨i,n,hi,hj,hb,rfl⟩ | ⟨hj,rfl⟩
   ·rcases k with ⟨i',n',hi',hj',hb',rfl⟩ | ⟨hj',rfl⟩
    ·obtain ⟨rfl,rfl⟩:=first_det (q:=badA names R p) (i:=i) (j:=i') (a:=n) (b:=n') hj hb (fun k hk => by rw [← badA_same hm hu (by omega)]; exact hj' k hk) (by rw [← badA_same hm hu hi']; exact hb')
     rfl
    ·rw [← badA_same hm hu hi,hj' i hi] at hb; simp at hb
   ·rcases k with ⟨i',n',hi',hj',hb',rfl⟩ | ⟨hj',rfl⟩
    ·rw [badA_same hm hu hi',hj i' hi'] at hb'; simp at hb'
    ·rfl
theorem checkR_form {names : List (List UInt8)} {p : ProgV} {v : AV} (h : CheckR names p v) : ∃ a b c : Int,v = .tup [.int .i64 a, .int .i64 b, .int .i64 c]:=by
 rcases h with ⟨-,rfl⟩ | ⟨-,i,pos, -, -, -,rfl⟩ | ⟨-, -,R, -,⟨i,n, -, -, -,rfl⟩ | ⟨-,rfl⟩⟩
 all_goals exact ⟨_, _, _,rfl⟩
theorem newR_both {l : List NameV} {h h' : Heap} {v w : AV} (a : NewR l h v h') (b : RNewR l w) : (∃ k e : Nat,v = .tup [.nilp, .int .i64 (k : Nat), .int .i64 (e : Nat)] ∧ w = .tup [.nils, .int .i64 (k : Nat), .int .i64 (e : Nat)] ∧ e ≠ 0) ∨ (∃ o nl,v = .tup [.ptr o 0, .int .i64 0, .int .i64 0] ∧ w = .tup [slv nl false (l.map (·.name)), .int .i64 0, .int .i64 0] ∧ TabB h'.next h' o (l.map (·.name)) ∧ Old h h'):=by
 have hne : ∀ k e,badK l k = some e → e ≠ 0:=fun k e hb => by
  unfold badK badN at hb
  split at hb
  ·have:=Option.some.inj hb; omega
  ·split at hb
   ·have:=Option.some.inj hb; omega
   ·split at hb
    ·have:=Option.some.inj hb; omega
    ·simp at hb
 rcases a with ⟨k,e,hk,hj,hb,rfl,ho⟩ | ⟨hj,o,rfl,T,ho⟩
 ·rcases b with ⟨k',e',hk',hj',hb',rfl⟩ | ⟨hj',nl,rfl⟩
  ·obtain ⟨rfl,rfl⟩:=first_det hj hb hj' hb'
   exact .inl ⟨k,e,rfl,rfl,hne _ _ hb⟩
  ·rw [hj' k hk] at hb; simp at hb
 ·rcases b with ⟨k',e',hk',hj',hb',rfl⟩ | ⟨hj',nl,rfl⟩
  ·rw [hj k' hk'] at hb'; simp at hb'
  ·exact .inr ⟨o,nl,rfl,rfl,T,ho⟩
theorem gotR_both {names : List (List UInt8)} {p : ProgV} {h h' : Heap} {v w : AV} (hm : mayP p = true) (hn : p.fns.length ≤ 100000) (a : RowsR names p h v h') (b : GotR names p w) : ∃ v1 nl, ∃ L : List U64, ∃ x y z : Int,v = .tup [v1, .int .i64 x, .int .i64 y, .int .i64 z] ∧ w = .agg [slv nl false L, .int .i64 x, .int .i64 y, .int .i64 z] ∧ RowV h' v1 L ∧ L.length ≤ 100000 ∧ (∀ o,rowOf v1 = some o → o < h'.next) ∧ Old h h':=by
 rcases a with ⟨hm', -⟩ | ⟨-,i,pos,hi,hj,hb,rfl,ho⟩ | ⟨-,hall,v1,R,rfl,B,HL⟩
 ·rw [hm] at hm'; simp at hm'
 ·rcases b with ⟨i',pos',hi',hj',hb',rfl⟩ | ⟨hall', -⟩
  ·obtain ⟨rfl,rfl⟩:=first_det (q:=fun j => badF names (p.fns.getD j default)) hj hb hj' hb'
   exact ⟨.nils,true,[], _, _, _,rfl,rfl, .inl ⟨rfl,rfl⟩,Nat.zero_le _,fun o e => by simp [rowOf] at e,ho⟩
  ·rw [hall' _ (slv_get hi)] at hb; simp at hb
 ·rcases b with ⟨i',pos',hi',hj',hb',rfl⟩ | ⟨-,nl,R',rfl,HL'⟩
  ·rw [hall _ (slv_get hi')] at hb'; simp at hb'
  ·have hu : ∀ f,f < p.fns.length → R' f = R f:=HL'.unique HL
   have e : usL p.fns.length R' = usL p.fns.length R:=by
    unfold usL
    exact List.map_congr_left (fun x hx => by rw [hu x (List.mem_range.1 hx)])
   exact ⟨v1,nl,usL p.fns.length R,0,0,0,rfl,by rw [e],B.row,by rw [len_usL]; exact hn,fun o e => (B.own o e).2,B.old⟩
theorem effectRows_fun (hP : EfP P) (p : ProgV) (hw : ProgWf p) (nl fl : Bool) (l : List NameV) (hl : Len l.length) (h : Heap) : Fun P 4 [p.av,slv nl fl l] h (fun v _ => v = .bool true):=by
 refine Fun.of (code:=a4c) (hP.code rfl) (by rw [hP.pure]; rfl) ?_
 unfold ProgV.av
 simp (disch:=omega) only[go_sem,a4c,a4r0]
 simp (disch:=omega) only[go_sem,a4r1]
 refine WO.den (k:=0) (vs:=[p.av, .int .i64 400]) (by rw [hP.pure]; rfl) (by simp (disch:=omega) only[go_sem]; rfl) (great_den hP p hw) (fun v hv => by subst hv; rfl) (fun v hv => ?_)
 subst hv
 cases hg : greatB p with
 | true =>
  simp (disch:=omega) only[go_sem]
  simp (disch:=omega) only[go_sem,a4r2]
  refine WO.den (k:=0) (vs:=[]) (by rw [hP.pure]; rfl) (by simp (disch:=omega) only[go_sem]) hP.awake_den (fun v hv => by subst hv; rfl) (fun v hv => ?_)
  subst hv
  simp (disch:=omega) only[go_sem]
 | false =>
 obtain ⟨g1,g2,g3⟩:=great_bnd hg
 have hd : ∀ f ∈ p.fns,(deedsF f).length ≤ 100000:=fun f hf => by have:=g3 f hf; omega
 simp (disch:=omega) only[go_sem]
 refine WO.den (k:=0) (vs:=[slv nl fl l, .int .i64 60]) (by rw [hP.pure]; rfl) (by simp (disch:=omega) only[go_sem]) (great15_den hP nl fl l hl) (fun v hv => by obtain ⟨b,rfl, -⟩:=hv; rfl) (fun v hv => ?_)
 obtain ⟨b,rfl,hb⟩:=hv
 cases b with
 | true =>
  simp (disch:=omega) only[go_sem]
  simp (disch:=omega) only[go_sem,a4r2]
  refine WO.den (k:=0) (vs:=[]) (by rw [hP.pure]; rfl) (by simp (disch:=omega) only[go_sem]) hP.awake_den (fun v hv => by subst hv; rfl) (fun v hv => ?_)
  subst hv
  simp (disch:=omega) only[go_sem]
 | false =>
 obtain ⟨l1,l2⟩:=hb rfl
 simp (disch:=omega) only[go_sem]
 simp (disch:=omega) only[go_sem,a4r3]
 refine WO.fun (vs:=[slv nl fl l]) (by simp (disch:=omega) only[go_sem]) (new_fun hP h nl fl l (by omega)) (fun v h1 hv1 => ?_)
 have hden:=refnew17_den hP nl fl l (by omega) (fun x hx => by have:=l2 x hx; omega)
 have hal : ∀ v,RNewR l v → alone 1 v = true:=fun v hv => by
  rcases hv with ⟨k,e, -, -, -,rfl⟩ | ⟨-,n,rfl⟩
  ·rfl
  ·refine alone1_tup _ (fun x hx => ?_)
   simp only[List.mem_cons,List.not_mem_nil,or_false] at hx
   rcases hx with rfl | rfl | rfl
   ·exact pureV_slv _ _ _ _ (Nat.le_refl _)
   ·rfl
   ·rfl
 have hv1':=hv1
 rcases hv1 with ⟨k,e, -, -, -,rfl, -⟩ | ⟨-,o,rfl, -, -⟩
 ·simp (disch:=omega) only[go_sem]
  simp (disch:=omega) only[go_sem,a4r4]
  refine WO.den (k:=0) (vs:=[slv nl fl l]) (by rw [hP.pure]; rfl) (by simp (disch:=omega) only[go_sem]) hden hal (fun v hv => ?_)
  rcases newR_both hv1' hv with ⟨k',e',h1,rfl,hne⟩ | ⟨o,n,h1, -⟩
  ·injection h1 with h1
   injection h1 with _ h1
   injection h1 with h2 h1
   injection h1 with h3 _
   injection h2 with _ h2
   injection h3 with _ h3
   obtain rfl : k = k':=by omega
   obtain rfl : e = e':=by omega
   have w1 : decide (¬ ((e : Nat) : Int) = (0 : Int)) = true:=decide_eq_true (by omega)
   have w2 : decide (((e : Nat) : Int) = ((e : Nat) : Int)) = true:=by simp
   simp (disch:=omega) only[go_sem]
   simp (disch:=omega) only[go_sem,a4r5,w1]
   simp (disch:=omega) only[go_sem,a4r6,w2]
   refine WO.den (k:=0) (vs:=[]) (by rw [hP.pure]; rfl) (by simp (disch:=omega) only[go_sem]) hP.awake_den (fun v hv => by subst hv; rfl) (fun v hv => ?_)
   subst hv
   simp (disch:=omega) only[go_sem]
  ·simp at h1
 simp (disch:=omega) only[go_sem]
 simp (disch:=omega) only[go_sem,a4r4]
 refine WO.den (k:=0) (vs:=[slv nl fl l]) (by rw [hP.pure]; rfl) (by simp (disch:=omega) only[go_sem]) hden hal (fun v hv => ?_)
 rcases newR_both hv1' hv with ⟨k',e',hq1, -⟩ | ⟨o',nN,hq1,rfl,T,hO1⟩
 ·simp at hq1
 have ho : o = o':=by simpa using hq1
 subst ho
 have hnl:=T.tab.small
 simp (disch:=omega) only[go_sem]
 simp (disch:=omega) only[go_sem,a4r5]
 simp (disch:=omega) only[go_sem,a4r7]
 refine WO.fun (vs:=[p.av, .ptr o 0]) (by simp (disch:=omega) only[go_sem]; rfl) (rows18_fun hP T (Nat.le_refl _) p hw (fun hm => calls_ok hm hg) (by omega) hd) (fun v h2 hv => ?_)
 generalize hnames : l.map (·.name) = names at T hnl hv ⊢
 cases hm : mayP p with
 | false =>
  have hv0 : v = .tup [.nils, .int .i64 0, .int .i64 0, .int .i64 1] ∧ Old h1 h2:=by
   rcases hv with ⟨-,h3,h4⟩ | ⟨hm', -⟩ | ⟨hm', -⟩
   ·exact ⟨h3,h4⟩
   ·rw [hm] at hm'; simp at hm'
   ·rw [hm] at hm'; simp at hm'
  obtain ⟨rfl,hO2⟩:=hv0
  have T2:=T.old (h':=h2) (fun i hi => hO2.keep i hi)
  simp (disch:=omega) only[go_sem]
  simp (disch:=omega) only[go_sem,a4r8]
  refine WO.fun (vs:=[p.av, .ptr o 0]) (by simp (disch:=omega) only[go_sem]; rfl) (check19_fun hP T2 hO2.next p hw (fun hm => calls_ok hm hg) (by omega) hd) (fun v h3 hv => ?_)
  have hv0 : v = .tup [.int .i64 0, .int .i64 0, .int .i64 1]:=by
   rcases hv.1 with ⟨-,h3⟩ | ⟨hm', -⟩ | ⟨hm', -⟩
   ·exact h3
   ·rw [hm] at hm'; simp at hm'
   ·rw [hm] at hm'; simp at hm'
  subst hv0
  simp (disch:=omega) only[go_sem]
  simp (disch:=omega) only[go_sem,a4r9]
  refine WO.den (k:=0) (vs:=[p.av]) (by rw [hP.pure]; rfl) (by simp (disch:=omega) only[go_sem]; rfl) (may_den hP p hw) (fun v hv => by subst hv; rfl) (fun v hv => ?_)
  subst hv
  rw [hm]
  simp (disch:=omega) only[go_sem]
  simp (disch:=omega) only[go_sem,a4r10]
  refine WO.den (k:=0) (vs:=[]) (by rw [hP.pure]; rfl) (by simp (disch:=omega) only[go_sem]) hP.awake_den (fun v hv => by subst hv; rfl) (fun v hv => ?_)
  subst hv
  simp (disch:=omega) only[go_sem]
 | true =>
 have hc:=calls_ok hm hg
 have C : RRC names p:=⟨hw,by omega,hnl,hd,hm,hc⟩
 have hvc:=hv
 have hrows : ∃ v1 L, ∃ x y z : Int,v = .tup [v1, .int .i64 x, .int .i64 y, .int .i64 z] ∧ RowV h2 v1 (α:=U64) L ∧ Old h1 h2:=by
  rcases hv with ⟨hm', -⟩ | ⟨-,i,pos,hi,hj,hb,rfl,ho⟩ | ⟨-,hall,v1,R,rfl,B,HL⟩
  ·rw [hm] at hm'; simp at hm'
  ·exact ⟨.nils,[], _, _, _,rfl, .inl ⟨rfl,rfl⟩,ho⟩
  ·exact ⟨v1, _, _, _, _,rfl,B.row,B.old⟩
 obtain ⟨v1,L0,x,y,z,rfl,hr0,hO2⟩:=hrows
 have hE:=rowv_evs hr0
 have T2:=T.old (h':=h2) (fun i hi => hO2.keep i hi)
 simp (disch:=omega) only[go_sem,hE.ev,hE.dat]
 simp (disch:=omega) only[go_sem,a4r8,hE.ev]
 refine WO.fun (vs:=[p.av, .ptr o 0]) (by simp (disch:=omega) only[go_sem]; rfl) (check19_fun hP T2 hO2.next p hw (fun _ => hc) (by omega) hd) (fun v h3 hv => ?_)
 obtain ⟨hck,hO3⟩:=hv
 obtain ⟨ca,cb,cc,rfl⟩:=checkR_form hck
 simp (disch:=omega) only[go_sem,hE.ev]
 simp (disch:=omega) only[go_sem,a4r9,hE.ev]
 refine WO.den (k:=0) (vs:=[p.av]) (by rw [hP.pure]; rfl) (by simp (disch:=omega) only[go_sem]; rfl) (may_den hP p hw) (fun v hv => by subst hv; rfl) (fun v hv => ?_)
 subst hv
 rw [hm]
 simp (disch:=omega) only[go_sem,hE.ev]
 simp (disch:=omega) only[go_sem,a4r11,hE.ev]
 refine WO.den (k:=0) (vs:=[p.av,slv nN false names]) (by rw [hP.pure]; rfl) (by simp (disch:=omega) only[go_sem]; rfl) (refrows20_den hP C) (fun v hv => ?_) (fun v hv => ?_)
 ·rcases hv with ⟨i,pos, -, -, -,rfl⟩ | ⟨-,nl,R,rfl, -⟩
  ·rfl
  ·refine alone1_agg _ (fun x hx => ?_)
   simp only[List.mem_cons,List.not_mem_nil,or_false] at hx
   rcases hx with rfl | rfl | rfl | rfl
   ·exact pureV_slv _ _ _ _ (Nat.le_refl _)
   ·rfl
   ·rfl
   ·rfl
 obtain ⟨v1',nR,L,x',y',z',h5,rfl,hrow,hLl,hown, -⟩:=gotR_both hm (by omega) hvc hv
 have h6 : v1 = v1' ∧ x = x' ∧ y = y' ∧ z = z':=by simpa using h5
 obtain ⟨rfl,rfl,rfl,rfl⟩:=h6
 clear h5 hr0
 have hrow3 : RowV h3 v1 L:=by
  rcases hrow with e | ⟨q,ep,e,hq⟩
  ·exact .inl e
  ·refine .inr ⟨q,ep,e, ?_⟩
   rw [hO3.keep q (hown q (by rw [e]; rfl))]; exact hq
 have hlen:=rowv_len hrow3
 have w1 : decide (¬ x = x) = false:=by simp
 have w2 : decide (¬ y = y) = false:=by simp
 have w3 : decide (¬ z = z) = false:=by simp
 have w4 : decide (¬ ((L.length : Nat) : Int) = ((L.length : Nat) : Int)) = false:=by simp
 simp (disch:=omega) only[go_sem,hE.ev]
 simp (disch:=omega) only[go_sem,a4r12,w1,w2,w3,w4,hE.ev,hE.tag,hlen]
 simp (disch:=omega) only[go_sem,a4r14,hE.ev]
 refine Wp_loop (fun q : Nat × Nat => q.2 ≤ L.length) (fun (t,i) => { fr:=[(2, .lbox 0 [slv p.sn false p.sites,slv p.fn false p.fns]),(8,slv nN false names),(11,v1),(15, .int .i64 ca),(16, .int .i64 cb),(17, .int .i64 cc),(18, .lbox 1 [slv nR false L, .int .i64 x, .int .i64 y, .int .i64 z]),(19, .int .i64 (i : Nat))],st:=t,h:=h3 }) (fun q => L.length - q.2) (_,0) rfl (Nat.zero_le _) ?_
 rintro ⟨t,i⟩ i1
 simp only at i1
 by_cases c1 : i < L.length
 ·have w5 : decide (((i : Nat) : Int) < ((L.length : Nat) : Int)) = true:=decide_eq_true (by omega)
  have l1:=ldL c1
  rcases hrow3 with ⟨-,e⟩ | ⟨o5,e5,rfl,hq⟩
  ·rw [e] at c1; simp at c1
  have w6 : decide (¬ (((L.getD i default).n : Nat) : Int) = (((L.getD i default).n : Nat) : Int)) = false:=by simp
  simp (disch:=omega) only[go_sem,a4l0,a4r15,w5]
  simp (disch:=omega) only[go_sem,a4d16,hq,c1,Nat.mul_one,l1,w6]
  simp (disch:=omega) only[go_sem,a4r18]
  exact ⟨(_,i + 1),by simp only; omega,by simp only; omega,by push_cast; rfl⟩
 ·have w5 : decide (((i : Nat) : Int) < ((L.length : Nat) : Int)) = false:=decide_eq_false (by omega)
  simp (disch:=omega) only[go_sem,a4l0,a4r15,w5,hE.ev,hE.tag,hlen]
  simp (disch:=omega) only[go_sem,a4r19,hE.ev]
  refine WO.den (k:=0) (vs:=[p.av,slv nN false names]) (by rw [hP.pure]; rfl) (by simp (disch:=omega) only[go_sem]; rfl) (refcheck21_den hP C) (fun v hv => by obtain ⟨a,b,c,rfl⟩:=checkR_form hv; rfl) (fun v hv => ?_)
  have hv0:=checkR_det hv hck
  subst hv0
  have w7 : decide (ca = ca) = true:=by simp
  have w8 : decide (cb = cb) = true:=by simp
  have w9 : decide (cc = cc) = true:=by simp
  simp (disch:=omega) only[go_sem]
  simp (disch:=omega) only[go_sem,a4r20,w7,w8,w9]
  refine WO.den (k:=0) (vs:=[]) (by rw [hP.pure]; rfl) (by simp (disch:=omega) only[go_sem]) hP.awake_den (fun v hv => by subst hv; rfl) (fun v hv => ?_)
  subst hv
  simp (disch:=omega) only[go_sem]
end Go.Am.Ef
