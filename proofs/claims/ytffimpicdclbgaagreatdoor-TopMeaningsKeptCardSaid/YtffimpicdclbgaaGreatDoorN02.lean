/- Walks of functions, and plain facts. -/
import Derived.Deep.RegionHeld2
import Derived.Test.YtffimpicdclbgaaGreatDoorN01
set_option linter.unusedVariables false
set_option linter.unusedSimpArgs false
set_option maxHeartbeats 20000000
set_option maxRecDepth 100000
namespace Go.Proofs.YtffimpicdclbgaaGreatDoor
open Go.Proofs.Tryz
open Go.RowKit
theorem bcell{W w1:World}(hb:Below W.heap.size W w1):(∀b o,b<W.heap.size→w1.cell? ⟨b,o,none⟩=W.cell? ⟨b,o,none⟩)∧(∀b o,b<W.heap.size→w1.frozen? ⟨b,o,none⟩=W.frozen? ⟨b,o,none⟩):=⟨fun b o h=>hb.cell (p:=⟨b,o,none⟩) h,fun b o h=>hb.frozen (p:=⟨b,o,none⟩) h⟩
theorem Q0h{B:Nat}{a w:World}(h:Below B a w)(n:Nat):Below B a (w.drewN n):=h.trans ⟨rfl,rfl,rfl,Nat.le_refl _,fun _ _=>rfl⟩
theorem Qqz:(prog.info? 84).map (fun i=>(i.zero,i.size,i.bytes))=some (some (.agg #[.int .i64 0,.string ByteArray.empty,.int .i64 0]),3,32):=by kernel_rfl
def Zx:List Tok→List Value
 | []=>[]
 | t::r=>.int .i64 t.kind::.string ⟨t.text.toArray⟩::.int .i64 t.pos::Zx r
theorem Q9l(a b:List Tok):Zx (a++b)=Zx a++Zx b:=by
 induction a with
 | nil=>rfl
 | cons t r ih=>simp[Zx,ih]
theorem J8.below{w w':World}{B:Nat}(h:J8 w)(hb:Below B w w')(hB:2<B):J8 w':=by obtain⟨t,fr,h⟩:=h;exact⟨t,fr,by rw[hb.block _ hB];exact h⟩
def Qff(w:World)(r:Except (Nat×Nat) (List Tok))(e:Ending)(w':World):Prop:=
 Below w.heap.size w w'∧match r with
 | .error (d,x)=>e=.returned (.tuple #[.slice none 0 0,.int .i64 d,.int .i64 x])
 | .ok ts=>∃v,e=.returned (.tuple #[v,.int .i64 0,.int .i64 0])∧w'.ownsRow w.heap.size 84 3 v ts.length (Zx ts)
theorem news3(w:World)(a b c:Value)(T:TypeId):∀j u,[a,b,c][j]?=some u→(w.alloc (.cells #[a,b,c] T)).cell? ((⟨w.heap.size,0,none⟩:Addr).add j)=some u:=by
 intro j u h;have:(⟨w.heap.size,0,none⟩:Addr).add j=⟨w.heap.size,j,none⟩:=by unfold Addr.add;split<;>simp_all
 rw[this,World.cell?,heap_alloc_new];simpa using h
theorem one3(k p:Int)(s:ByteArray):∀u∈[Value.int .i64 k,.string s,.int .i64 p],u.oneCell'=true:=by intro u h;simp at h;rcases h with rfl|rfl|rfl<;>rfl
theorem Qmd{w w':World}{B e size n:Nat}{v:Value}{xs:List Value}(h:w.ownsRow B e size v n xs)(hb:Below w.heap.size w w'):w'.ownsRow B e size v n xs:=h.kept (row:=none) ⟨hb.os,hb.tape,hb.output,hb.size,fun k hk _=>hb.block k hk⟩ (by cases hv:v.ownBlock<;>simp)
theorem Qme{w:World}{B e size n b o:Nat}{v:Value}{xs:List Value}(h:w.ownsRow B e size v n xs)(hne:v.ownBlock≠some b)(x:Value):(w.setCell ⟨b,o,none⟩ x).ownsRow B e size v n xs:=h.kept (row:=some b) ⟨rfl,rfl,rfl,by simp[World.setCell],fun k _ hk=>Below.heap_setCell _ _ _ _ (fun e=>hk (by simp[e]))⟩ (Or.inr hne)
theorem Qsf(l:List UInt8)(h:l≠[])(w:World)(hl:l.length≤1000000000):
  Calls prog 83 #[.string ⟨l.toArray⟩] w fun e w'=>e=.returned (Q0q l)∧Below w.heap.size w w':=by
 match l,h with
 | c::r,_=>exact Qf6 c r w hl
theorem Qdn(s:List UInt8)(w:World)(hs:s.length≤1000000)(hg:J8 w)(hg0:2<w.heap.size):
  Calls prog 36 #[.string ⟨s.toArray⟩] w (Qff w (scan s)):=by
 by_cases hlong:65536<s.length
 ·have hr:Hid (scan s=.error (0,13)):=show _=_ by rw[scan,if_pos hlong]
  go_enter func36,ntmps36;go_wp2_with fail;go_ret3
  rw[hr.out];exact⟨Below.refl _ _,rfl⟩
 ·have hle:s.length≤65536:=by omega
  have hr:=qh (Qdp hle);obtain⟨i0,hi,hz0,hz1,hz2⟩:=info_parts Qqz;have HG:=qh hg;have HI:=qh hi;have HZ:=qh (And.intro hz0 (And.intro hz1 hz2));clear hg hi hz0 hz1 hz2 hlong;have hsk:=Q26 false s;go_enter func36,ntmps36;go_wp2_with fail;(with_reducible refine(Q94 _ _ (by omega)).mono ?_);rintro e w' ⟨rfl,rfl⟩
  go_wp2_with fail;obtain⟨w0,hw0⟩:∃w0:World,w0=w':=⟨_,rfl⟩;replace hw0:=qh hw0;go_loopw [5,6] (fun v i wr=>∃k:Nat,∃ts:List Tok,k≤s.length∧i=.int .i64 k∧wr.ownsRow w'.heap.size 84 3 v ts.length (Zx ts)∧ts.length≤k∧Below w'.heap.size w' wr∧J8 wr∧Hid (skip false (s.drop k)=0∧Z5 0 s=app ts (Z5 k (s.drop k)))) (fun _ i _=>s.length-(intOf i).toNat)
  case atStart=>exact⟨skip false s,[],hsk,rfl,World.ownsRow_nil _ _ _ _,by simp,Below.refl _ _,HG.out,Q5v s false,by rw[Qfk,Q48];simp⟩
  case round=>
   obtain⟨k,ts,hk,rfl,hown,hts,hb,hsg,hall⟩:=hrel;by_cases hlt:k<s.length
   ·by_cases hw:Q1 Q3 (s.drop k)=0
    ·have htok:=qh (Q62 hw)
     have hm:=qh (show(s.drop k).length≤maxLen by simp[maxLen];omega);have hrun:=fun W=>Q90 (s.drop k) hm.out W
     rw[hw]at hrun;replace hrun:=qh hrun;have hne':Hid (s.drop k≠[]):=by intro e;have:=congrArg List.length e;simp at this;omega
     have hsl:=Q2t (s.drop k);have hfp:=Q2g (s.drop k);have hsd:=qh (fun W=>Qph (s.drop k) W hm.out);have hlen:(Jq Qq (s.drop k)).length=Zv (s.drop k):=by rw[hfp,List.length_take];omega
     have hfl:Hid (Jq Qq (s.drop k)=(s.drop k).take (Jq Qq (s.drop k)).length):=show _=_ by rw[hlen];exact hfp
     have hkn:k+(Jq Qq (s.drop k)).length≤s.length:=by simp only[List.length_drop]at hsl;omega
     clear hw hfp hsl hlen;have hsg2:∀o,J8 (wr.alloc o):=fun o=>hsg.below ((Below.refl _ _).alloc (Nat.le_refl _) o) (by have:=hb.size;omega)
     generalize Jq Qq (s.drop k)=sg at *;cases sg with
     | nil=>
      have hto:Hid (scan s=.error (k,4)):=show _=_ by have h1:=htok.out;simp only[if_true]at h1;rw[hr.out,hall.out.2,Qdl hall.out.1 hne'.out h1];rfl
      replace hsg2:=qh hsg2;go_wp2_with fail;(with_reducible refine(hrun.out _).mono ?_);rintro e w1 ⟨rfl,rfl⟩
      go_wp2_with fail;(with_reducible refine(hsd.out _ (hsg2.out _)).mono ?_);rintro e w1 ⟨rfl,rfl⟩
      go_wp2_with fail;go_ret3
      rw[hto.out];exact⟨hb.alloc hb.size _,rfl⟩
     | cons c0 r0=>
      replace hsg2:=qh hsg2;have hlp:0<(c0::r0).length:=by simp
      generalize hn:(c0::r0).length=n at *;have hlen:Hid ((c0::r0).length=n):=hn;replace hn:=qh hn;have hto:Hid (scan s=app (ts++[⟨2,c0::r0,k⟩]) (Z5 (k+n) (s.drop (k+n)))):=show _=_ by have h1:=htok.out;rw[if_neg (by simp)]at h1;rw[hr.out,hall.out.2,Q93 hall.out.1 hne'.out h1,Qa5,List.drop_drop,←hfl.out];rfl
      obtain⟨hz0,hz1,hz2⟩:=HZ.out;have hi:=HI.out;go_wp2_with fail;(with_reducible refine(hrun.out _).mono ?_);rintro e w1 ⟨rfl,rfl⟩
      go_wp2_with fail;(with_reducible refine(hsd.out _ (hsg2.out _)).mono ?_);rintro e w1 ⟨rfl,rfl⟩
      have hneB:Hid (u5.ownBlock≠some wr.heap.size):=by intro e;have:=hown.lt _ e;omega
      have hown2:=qh (fun(o o':Obj)=>(hown.alloc o).alloc o');go_wp2_with (at_builtin;refine wpList_append_own _ rfl _ _ 76 rfl w'.heap.size 84 i0 _ 3 32 underlying76 hi hz0 hz1 hz2 rfl (by decide) _ _ _ rfl (hown2.out _ _) ⟨wr.heap.size+1,0,none⟩ 1 1 [.int .i64 2,.string ⟨(c0::r0).toArray⟩,.int .i64 k] rfl rfl ?c1 ?c2 ?c3 ?c4 ?c5 ?_)
      case c1=>have h:=news3 (wr.alloc (Obj.cells #[.int .i64 2,.string ⟨(c0::r0).toArray⟩,.int .i64 k] 84)) (.int .i64 2) (.string ⟨(c0::r0).toArray⟩) (.int .i64 k) 84;rw[World.size_alloc]at h;exact h
      case c2=>exact one3 _ _ _
      case c3=>unfold maxLen;omega
      case c4=>omega
      case c5=>have:=hb.size;simp;omega
      intro v' w3 hown' hgrow _;have c3:w3.cell? ⟨wr.heap.size,1,none⟩=some (.string ⟨(c0::r0).toArray⟩):=hgrow.cell (by simp[go_sem]) (Ne.symm hneB.out);have hsm:=Q26 false (s.drop (k+n));have hlen1:=hlen.out;simp only[List.length_cons]at hlen1;have hlen2:((r0.length:Int)+1)=n:=by omega
      clear hlen1;simp only[List.length_drop]at hsm;replace hown':=qh hown';have hB3:=qh ((hb.alloc hb.size (Obj.cells #[.int .i64 2,.string ⟨(c0::r0).toArray⟩,.int .i64 k] 84)).alloc (by have:=hb.size;simp;omega) (Obj.cells #[.int .i64 2,.string ⟨(c0::r0).toArray⟩,.int .i64 k] 84) |>.grown hgrow (by have:=hb.size;simp;omega) (fun g hg=>(hown.lt g hg).1));clear hgrow;go_wp2_with fail;(with_reducible refine(Q94 _ _ (by simp only[List.length_drop];omega)).mono ?_);rintro e w1 ⟨rfl,rfl⟩
      go_wp2_with fail;go_roundw
      case rel=>exact⟨k+n+skip false (s.drop (k+n)),ts++[⟨2,c0::r0,k⟩],by omega,by go_num,by rw[Q9l,List.length_append];exact hown'.out,by simp;omega,hB3.out,HG.out.below hB3.out hg0,by have h:=Q5v (s.drop (k+n)) false;rwa[List.drop_drop]at h,by rw[←hr.out,hto.out,Q48,List.drop_drop]⟩
      case measure=>simp[intOf];omega
    ·have hwle:=Yf Q3 (s.drop k)
     have hwpos:0<Q1 Q3 (s.drop k):=by omega
     have htok:=qh (Q9u hwpos);have hm:=qh (show(s.drop k).length≤maxLen by simp[maxLen];omega);have hrun:=qh (fun W=>Q90 (s.drop k) hm.out W);have hne:s.drop k≠[]:=by intro e;have:=congrArg List.length e;simp at this;omega
     have hlen:(List.take (Q1 Q3 (s.drop k)) (s.drop k)).length=Q1 Q3 (s.drop k):=by rw[List.length_take];omega
     have hall:=hall;generalize hn:Q1 Q3 (s.drop k)=n at *;generalize htx:List.take n (s.drop k)=txt at *;have hdr:Hid (List.drop n (s.drop k)=s.drop (k+n)):=show _=_ by rw[List.drop_drop]
     have hkn:k+n≤s.length:=by simp only[List.length_drop]at hwle;omega
     have hne':Hid (s.drop k≠[]):=hne;have hwd:=qh (fun W=>Qsf txt (by intro e;rw[e]at hlen;simp at hlen;omega) W (by omega));replace hlen:=qh hlen;replace hn:=qh hn;clear hw hwle hne;generalize hwr:Qu txt=res at *;have hpl:=Qse txt;rw[hwr,hlen.out]at hpl;obtain⟨kd,pl,er⟩:=res;replace hpl:pl≤n:=hpl;have hwv:Hid (Q0q txt=.tuple #[.int .i64 kd,.int .i64 pl,.int .i64 er]):=show _=_ by rw[Q0q,hwr]
     replace hwr:=qh hwr;by_cases her:er=0
     ·subst her
      have hto:Hid (scan s=app (ts++[⟨kd,txt,k⟩]) (Z5 (k+n) (s.drop (k+n)))):=show _=_ by have h1:=htok.out;simp only[if_true]at h1;rw[hr.out,hall.out.2,Q93 hall.out.1 hne'.out h1,Qa5,htx,List.drop_drop]
      obtain⟨hz0,hz1,hz2⟩:=HZ.out;have hi:=HI.out;go_wp2_with fail;(with_reducible refine(hrun.out _).mono ?_);rintro e w1 ⟨rfl,rfl⟩
      go_wp2_with fail;(with_reducible refine(hwd.out _).mono ?_);rintro e w2 ⟨rfl,hb2⟩
      rw[hwv.out];obtain⟨hc,hf⟩:=bcell hb2;have hwsz:wr.heap.size<w2.heap.size:=by have:=hb2.size;simp at this;omega
      have hneB:u5.ownBlock≠some wr.heap.size:=by intro e;have:=hown.lt _ e;omega
      have hown2:=qh (fun(o:Obj)=>(Qme (o:=0) (Qmd (hown.alloc _) hb2) hneB (.int .i64 kd)).alloc o);replace hneB:=qh hneB;clear htok hwr;go_wp2_with (at_builtin;refine wpList_append_own _ rfl _ _ 76 rfl w'.heap.size 84 i0 _ 3 32 underlying76 hi hz0 hz1 hz2 rfl (by decide) _ _ _ rfl (hown2.out _) ⟨w2.heap.size,0,none⟩ 1 1 [.int .i64 kd,.string ⟨txt.toArray⟩,.int .i64 k] rfl rfl ?c1 ?c2 ?c3 ?c4 ?c5 ?_)
      case c1=>have h:=news3 (w2.setCell ⟨wr.heap.size,0,none⟩ (.int .i64 kd)) (.int .i64 kd) (.string ⟨txt.toArray⟩) (.int .i64 k) 84;rw[World.size_setCell]at h;exact h
      case c2=>exact one3 _ _ _
      case c3=>unfold maxLen;omega
      case c4=>omega
      case c5=>have:=hb.size;simp;omega
      intro v' w3 hown' hgrow _;have c3:w3.cell? ⟨wr.heap.size,1,none⟩=some (.string ⟨txt.toArray⟩):=hgrow.cell (by simp[go_sem,hc,hwsz]) (Ne.symm hneB.out);have hlen1:=hlen.out;have hsm:=Q26 false (s.drop (k+n));simp only[List.length_drop]at hsm;replace hown':=qh hown';have hB3:=qh (((hb.trans (((Below.refl _ _).alloc hb.size _).trans (hb2.mono (by have:=hb.size;simp;omega)))).setCell (p:=⟨wr.heap.size,0,none⟩) hb.size (.int .i64 kd)).alloc (by have:=hb.size;simp;omega) (Obj.cells #[.int .i64 kd,.string ⟨txt.toArray⟩,.int .i64 k] 84) |>.grown hgrow (by have:=hb.size;simp;omega) (fun g hg=>(hown.lt g hg).1));clear hgrow hc hf hb2;go_wp2_with fail;(with_reducible refine(Q94 _ _ (by simp only[List.length_drop];omega)).mono ?_);rintro e w1 ⟨rfl,rfl⟩
      go_wp2_with fail;go_roundw
      case rel=>exact⟨k+n+skip false (s.drop (k+n)),ts++[⟨kd,txt,k⟩],by omega,by go_num,by rw[Q9l,List.length_append];exact hown'.out,by simp;omega,hB3.out,HG.out.below hB3.out hg0,by have h:=Q5v (s.drop (k+n)) false;rwa[List.drop_drop]at h,by rw[←hr.out,hto.out,Q48,List.drop_drop]⟩
      case measure=>simp[intOf];omega
     ·have hb0:((er:Int)!=0)=true:=by rw[bne_iff_ne];omega
      have hto:Hid (scan s=.error (k+pl,er)):=show _=_ by rw[hr.out];have h1:=htok.out;simp only[her,if_false]at h1;rw[hall.out.2,Qdl hall.out.1 hne'.out h1];rfl
      clear her;go_wp2_with fail;(with_reducible refine(hrun.out _).mono ?_);rintro e w1 ⟨rfl,rfl⟩
      go_wp2_with fail;(with_reducible refine(hwd.out _).mono ?_);rintro e w2 ⟨rfl,hb2⟩
      rw[hwv.out];obtain⟨hc,hf⟩:=bcell hb2;go_wp2_with fail;go_ret3
      rw[hto.out];exact⟨hb.trans (((Below.refl _ _).alloc hb.size _).trans (hb2.mono (by have:=hb.size;simp;omega))),rfl⟩
   ·have hkl:k=s.length:=by omega
    have hres:Hid (scan s=.ok (ts++[⟨3,[],s.length⟩])):=show _=_ by rw[hr.out,hall.out.2,List.drop_of_length_le (by omega),Qdm,hkl];rfl
    obtain⟨hz0,hz1,hz2⟩:=HZ.out;have hi:=HI.out;replace hkl:=qh hkl;go_wp2_with (at_builtin;refine wpList_append_own _ rfl _ _ 76 rfl w'.heap.size 84 i0 _ 3 32 underlying76 hi hz0 hz1 hz2 rfl (by decide) _ _ _ rfl (hown.alloc _) ⟨wr.heap.size,0,none⟩ 1 1 [.int .i64 3,.string ⟨#[]⟩,.int .i64 s.length] rfl rfl ?c1 ?c2 ?c3 ?c4 ?c5 ?_)
    case c1=>exact news3 _ _ _ _ _
    case c2=>exact one3 _ _ _
    case c3=>unfold maxLen;omega
    case c4=>omega
    case c5=>have:=hb.size;simp;omega
    intro v' w1 hown' hgrow _;go_wp2_with fail;go_ret3
    rw[hres.out];refine⟨(hb.alloc hb.size _).grown hgrow (by have:=hb.size;simp;omega) (fun g hg=>(hown.lt g hg).1),v',rfl,?_⟩;rw[Q9l];simpa[Zx]using hown'
def Q16:List (List UInt8):=[[67],[68],[69],[75],[97,100,118,101,114,115,97,114,121],[97,108,108],[97,108,108,111,119],[97,108,119,97,121,115],[97,110,100],[97,116],[99,97,108,109],[99,111,117,110,116],[99,114,97,115,104],[100,101,99,105,100,101,100],[101,118,101,110,116,117,97,108,108,121],[101,118,101,114,121,111,110,101],[102,97,117,108,116,121],[102,111,114],[102,111,114,109,117,108,97],[103,105,118,101,110],[103,114,97,112,104,115],[104,101,97,114,100],[104,101,97,114,115],[105,110],[105,110,112,117,116],[105,110,112,117,116,115],[110,101,120,116],[110,111,116],[111,109,105,116],[111,114],[111,117,116],[111,117,116,112,117,116,115],[112,97,114,116,105,116,105,111,110],[112,114,111,98,108,101,109],[112,114,111,99,101,115,115,101,115],[114,101,99,101,105,118,101],[114,111,117,110,100,115],[115,101,110,100],[115,110,97,112,115,104,111,116],[115,111,109,101],[116,97,115,107],[116,104,101,110],[116,114,117,101],[117,110,100,101,114],[117,110,116,105,108],[119,104,101,114,101]]
def Q3p:Array Value:=(Q16.map fun l=>Value.string ⟨l.toArray⟩).toArray
def J9(w:World):Prop:=Lib.TabIs prog w "strings.asciiSpace" .u8 Lib.asciiSpaceTab
theorem J9.below{w w':World}(h:J9 w)(hb:Below w.heap.size w w'):J9 w':=by
 unfold J9 Lib.TabIs World.var? at *;rw[show prog.globalNamed "strings.asciiSpace" = some 4 from by kernel_rfl]at *;simp only[Option.bind_some]at *;have:4<w.heap.size:=by
  rcases Nat.lt_or_ge 4 w.heap.size with h'|h'
  ·exact h'
  ·simp[Array.getElem?_eq_none h']at h
 rw[hb.block _ this];exact h
def Q51:List UInt8:=[67,32,68,32,69,32,75,32,97,100,118,101,114,115,97,114,121,32,97,108,108,32,97,108,108,111,119,32,97,108,119,97,121,115,32,97,110,100,32,97,116,32,99,97,108,109,32,99,111,117,110,116,32,99,114,97,115,104,32,100,101,99,105,100,101,100,32,101,118,101,110,116,117,97,108,108,121,32,101,118,101,114,121,111,110,101,32,102,97,117,108,116,121,32,102,111,114,32,102,111,114,109,117,108,97,32,103,105,118,101,110,32,103,114,97,112,104,115,32,104,101,97,114,100,32,104,101,97,114,115,32,105,110,32,105,110,112,117,116,32,105,110,112,117,116,115,32,110,101,120,116,32,110,111,116,32,111,109,105,116,32,111,114,32,111,117,116,32,111,117,116,112,117,116,115,32,112,97,114,116,105,116,105,111,110,32,112,114,111,98,108,101,109,32,112,114,111,99,101,115,115,101,115,32,114,101,99,101,105,118,101,32,114,111,117,110,100,115,32,115,101,110,100,32,115,110,97,112,115,104,111,116,32,115,111,109,101,32,116,97,115,107,32,116,104,101,110,32,116,114,117,101,32,117,110,100,101,114,32,117,110,116,105,108,32,119,104,101,114,101]
theorem Qk3:Lib.fields Q51=Q16:=by kernel_rfl
theorem Qk1:Q51.all (fun b=>decide (b.toNat<128))=true:=by decide +kernel
theorem Qjx(w:World)(hsp:J9 w):
  Calls prog 153 #[] w fun e w'=>e=.returned (.slice (some ⟨w.heap.size,0,none⟩) 46 46)∧w'=w.alloc (.cells Q3p 9):=by
 have hF:Hid (Calls prog 168 #[.string ⟨Q51.toArray⟩] w fun e w'=>e=.returned (.slice (some ⟨w.heap.size,0,none⟩) 46 46)∧w'=w.alloc (.cells Q3p 9)):=by
  have h:=Tryz.strings_Fields ⟨Q51.toArray⟩ w (by rw[Q2c];decide) (fun j b hj=>by have:=List.all_eq_true.1 Qk1 b (List.mem_of_getElem? hj);simpa using this) hsp
  rw[Qk3]at h;exact h
 replace hsp:=qh hsp;go_enter func153,ntmps153;go_wp2_with fail;refine(hF.out).mono ?_;rintro e w1 ⟨rfl,rfl⟩;go_wp2_with fail;go_ret;exact⟨rfl,rfl⟩
def kwBA:List ByteArray:=Q16.map fun l=>⟨l.toArray⟩
def Q5(s:List UInt8):Bool:=decide (s∈Q16)
theorem Qh4(s:List UInt8):Lib.containsS (kwBA.take 46) ⟨s.toArray⟩=Q5 s:=by
 rw[Bool.eq_iff_iff,Lib.containsS_iff,Q5,decide_eq_true_eq];have:kwBA.take 46=kwBA:=by kernel_rfl
 rw[this,kwBA,List.mem_map];constructor
 ·rintro⟨l,hl,e⟩
  have:l=s:=by simpa using e
  rw[←this];exact hl
 ·intro h;exact⟨s,h,rfl⟩
theorem Qk2(w:World):∀j,j<kwBA.length→(w.alloc (.cells Q3p 9)).cell? ⟨w.heap.size,0+j,none⟩=some (.string (kwBA.getD j ByteArray.empty)):=by
 intro j hj;rw[World.cell?,heap_alloc_new,Nat.zero_add];have hj':j<Q16.length:=by simpa[kwBA]using hj
 simp[Q3p,kwBA,List.getD,hj']
theorem Qd6(s:List UInt8)(w:World)(hsp:J9 w):
  Calls prog 137 #[.string ⟨s.toArray⟩] w fun e w'=>e=.returned (.bool (Q5 s))∧Below w.heap.size w w':=by
 have hK:=qh (Qjx w hsp);have hc:=qh (Tryz.slices_Contains_string w.heap.size 0 46 46 kwBA ⟨s.toArray⟩ (w.alloc (.cells Q3p 9)) (by decide) (by omega) (Qk2 w));replace hsp:=qh hsp;go_enter func137,ntmps137;go_wp2_with fail;(with_reducible refine(hK.out).mono ?_);rintro e w1 ⟨rfl,rfl⟩
 go_wp2_with fail;(with_reducible refine(hc.out).mono ?_);rintro e w1 ⟨rfl,rfl⟩
 rw[Qh4];go_wp2_with fail;go_ret;exact⟨rfl,(Below.refl _ _).alloc (Nat.le_refl _) _⟩
end Go.Proofs.YtffimpicdclbgaaGreatDoor
namespace Go.Proofs.YtffimpicdclbgaaGreatDoor
open Go.Proofs.Tryz
abbrev Jr:List UInt8:=[116,104,101,110]
abbrev Q50:List UInt8:=[117,110,116,105,108]
abbrev Qt:List UInt8:=[99,111,117,110,116]
abbrev kAll:List UInt8:=[97,108,108]
abbrev Yb:List UInt8:=[115,111,109,101]
abbrev kIn:List UInt8:=[105,110]
abbrev kOut:List UInt8:=[111,117,116]
abbrev Zn:List UInt8:=[104,101,97,114,115]
abbrev Q1w:List UInt8:=[115,110,97,112,115,104,111,116]
abbrev Q2h:List UInt8:=[103,114,97,112,104,115]
abbrev Q0m:List UInt8:=[116,114,117,101]
abbrev Q3n:List UInt8:=[101,118,101,114,121,111,110,101]
abbrev cmps:List (List UInt8):=[[61],[33,61],[60],[60,61]]
abbrev sums:List (List UInt8):=[[43],[45]]
abbrev schs:List (List UInt8):=[[99,114,97,115,104],[115,101,110,100],[114,101,99,101,105,118,101],[111,109,105,116],[112,97,114,116,105,116,105,111,110]]
abbrev fone:List (List UInt8):=[[103,105,118,101,110],[102,97,117,108,116,121],[97,116]]
abbrev ftwo:List (List UInt8):=[[105,110,112,117,116],[104,101,97,114,100],[100,101,99,105,100,101,100]]
abbrev fset:List (List UInt8):=[[69],[68],[67]]
abbrev ftim:List (List UInt8):=[[110,101,120,116],[97,108,119,97,121,115],[101,118,101,110,116,117,97,108,108,121]]
def opP(k:Nat)(t:List UInt8):Option (Nat×Nat×Nat):=
 if k=0 then if t=kOr then some (0,0,1)else if t=kAnd then some (1,1,2)else if t∈cmps then some (3,4,4)else if t∈sums then some (4,4,5)else none
 else if k=1 then if t=kOr then some (0,0,1)else if t=kAnd then some (1,1,2)else if t=Jr then some (2,3,2)else none
 else if t=Q50 then some (0,1,0)else if t=kOr then some (1,1,2)else if t=kAnd then some (2,2,3)else none
def own(k:Nat)(t:List UInt8):Nat:=((opP k t).getD (0,0,0)).1
def lft(k:Nat)(t:List UInt8):Nat:=((opP k t).getD (0,0,0)).2.1
def rgt(k:Nat)(t:List UInt8):Nat:=((opP k t).getD (0,0,0)).2.2
def lvl(k:Nat)(t:Syn):Nat:=if t.kind=11 then own k t.text else if k=0∧(t.kind=12∨t.kind=13∧t.text≠Qt)then 2 else 5
def natB(n:Int):Bool:=decide (0≤n)&&decide (n≤1048576)
def Jw(s:List UInt8):Bool:=Jc 0 s&&!Q5 s
def Q9(t:Syn):Bool:=decide (t.kind=9)&&(t.text==[])&&natB t.num&&t.kids.isEmpty
def isNm(t:Syn):Bool:=decide (t.kind=8)&&decide (t.num=0)&&t.kids.isEmpty&&Jw t.text
def Ji(t:Syn):Bool:=decide (t.kind=14)&&decide (t.num=0)&&((t.text==Q3n&&t.kids.isEmpty)||(t.text==[]&&t.kids.all Q9))
def okc:Syn→Bool
 | .mk k t n p []=>Q9 (.mk k t n p [])||isNm (.mk k t n p [])
 | .mk k t n _ [a]=>(decide (k=12)&&(t==[])&&decide (n=0)&&okc a)||(decide (k=10)&&decide (n=0)&&(t==kIn||t==kOut)&&okc a)
 | .mk k t n _ [a,b]=>(decide (k=13)&&(t==kAll||t==Yb||t==Qt)&&decide (n=0)&&isNm a&&okc b) ||
   (decide (k=10)&&decide (n=0)&&(t==Zn)&&okc a&&okc b)||(decide (k=11)&&decide (n=0)&&(opP 0 t).isSome&&okc a&&okc b)
 | _=>false
def oks:Syn→Bool
 | .mk k t n p []=>isNm (.mk k t n p [])||(decide (k=10)&&decide (n=0)&&(t==Q1w))
 | .mk k t n _ [a]=>decide (k=10)&&decide (n=0)&&((t==Q2h&&okc a)||(schs.contains t&&Q9 a))
 | .mk k t n _ [a,b]=>decide (k=11)&&(opP 1 t).isSome&&(if t=Jr then natB n else decide (n=0))&&oks a&&oks b
 | _=>false
def okf:Syn→Bool
 | .mk k t n _ []=>decide (k=10)&&decide (n=0)&&(t==Q0m)
 | .mk k t n _ [a]=>(decide (k=12)&&(t==[])&&decide (n=0)&&okf a)||(decide (k=10)&&decide (n=0)&&((fone.contains t&&Q9 a)||(ftim.contains t&&okf a)))
 | .mk k t n _ [a,b]=>(decide (k=10)&&decide (n=0)&&((ftwo.contains t&&Q9 a&&Q9 b)||(t==[75]&&Q9 a&&okf b)||(fset.contains t&&Ji a&&okf b))) ||
   (decide (k=11)&&decide (n=0)&&(opP 2 t).isSome&&okf a&&okf b)
 | _=>false
def opn:Syn→Bool
 | .mk k t _ _ [a]=>if k=13 then t !=Qt else decide (k=12)&&decide (2≤lvl 0 a)&&opn a
 | .mk k t _ _ [_,b]=>if k=13 then t !=Qt else decide (k=11)&&decide (rgt 0 t≤lvl 0 b)&&opn b
 | .mk k t _ _ _=>decide (k=13)&&t !=Qt
def Jz:Nat→Nat→List UInt8→List UInt8
 | 0,_,l=>l
 | f+1,n,l=>if n<10 then UInt8.ofNat (48+n)::l else Jz f (n / 10) (UInt8.ofNat (48+n % 10)::l)
def dec(n:Nat):List UInt8:=Jz (n+1) n []
def par(b:Bool)(s:List UInt8):List UInt8:=if b then 40::(s++[41])else s
def Z8(t:List UInt8)(a:Syn):Bool:=(t==kOr||t==kAnd)&&opn a
def wrc:Syn→List UInt8
 | .mk k t n _ []=>if k=9 then dec n.toNat else t
 | .mk k t _ _ [a]=>if k=12 then kNot++32::par (decide (lvl 0 a<2)) (wrc a)else t++40::(par (decide (lvl 0 a<4)) (wrc a)++[41])
 | .mk k t _ _ [a,b]=>
  if k=13 then if t=Qt then t++32::(a.text++32::par true (wrc b))else t++32::(a.text++58::32::wrc b)
  else if k=10 then t++40::(par (decide (lvl 0 a<4)) (wrc a)++44::32::(par (decide (lvl 0 b<4)) (wrc b)++[41]))
  else par (Z8 t a||decide (lvl 0 a<lft 0 t)) (wrc a)++32::(t++32::par (decide (lvl 0 b<rgt 0 t)) (wrc b))
 | _=>[]
def wrs:Syn→List UInt8
 | .mk _ t _ _ []=>t
 | .mk _ t _ _ [a]=>t++40::(wrc a++[41])
 | .mk _ t n _ [a,b]=>par (decide (lvl 1 a<lft 1 t)) (wrs a)++32::(t++32::((if t=Jr then dec n.toNat++[32]else[])++par (decide (lvl 1 b<rgt 1 t)) (wrs b)))
 | _=>[]
def commas:List (List UInt8)→List UInt8
 | []=>[]
 | [x]=>x
 | x::y::r=>x++44::32::commas (y::r)
def wset(t:Syn):List UInt8:=if t.text=[]then 123::(commas (t.kids.map fun x=>dec x.num.toNat)++[125])else t.text
def warg(t:Syn):List UInt8:=if t.kind=9 then dec t.num.toNat else wset t
def wrf:Syn→List UInt8
 | .mk _ t _ _ []=>t
 | .mk k t _ _ [a]=>if k=12 then kNot++32::par (decide (lvl 2 a<3)) (wrf a)else if fone.contains t then t++40::(warg a++[41])else t++40::(wrf a++[41])
 | .mk k t _ _ [a,b]=>
  if k=10 then if ftwo.contains t then t++40::(warg a++44::32::(warg b++[41]))else t++40::(warg a++44::32::(wrf b++[41]))
  else par (decide (lvl 2 a<lft 2 t)) (wrf a)++32::(t++32::par (decide (lvl 2 b<rgt 2 t)) (wrf b))
 | _=>[]
def kid0(t:Syn):Syn:=t.kids.headD Z6
def kid1(t:Syn):Syn:=(t.kids.drop 1).headD Z6
end Go.Proofs.YtffimpicdclbgaaGreatDoor
namespace Go.Proofs.YtffimpicdclbgaaGreatDoor
open Go.Proofs.Tryz
open Go.RowKit
inductive KidR (w:World):List Syn→Value→Prop
 | nil {p:Option Addr} {c:Nat}:KidR w [] (.slice p 0 c)
 | row {l:List Syn} {b o c:Nat} {u:Nat→Value} (hc:∀i (hi:i<l.length),w.cell? ⟨b,o+i*5,none⟩=some (.int .i64 l[i].kind)∧w.cell? ⟨b,o+i*5+1,none⟩=some (.string ⟨l[i].text.toArray⟩) ∧
   w.cell? ⟨b,o+i*5+2,none⟩=some (.int .i64 l[i].num)∧w.cell? ⟨b,o+i*5+3,none⟩=some (.int .i64 l[i].pos)∧w.cell? ⟨b,o+i*5+4,none⟩=some (u i))
   (hk:∀i (hi:i<l.length),KidR w l[i].kids (u i)) (hcap:l.length≤c):KidR w l (.slice (some ⟨b,o,none⟩) l.length c)
theorem Q4{w w':World}{b o:Nat}{v:Value}(h:w.cell? ⟨b,o,none⟩=some v)(hb:Below w.heap.size w w'):w'.cell? ⟨b,o,none⟩=some v:=by rw[hb.cell (World.block_lt_of_cell? w ⟨b,o,none⟩ h)];exact h
theorem KidR.low{w w':World}(hb:Below w.heap.size w w'):∀{l:List Syn} {v:Value},KidR w l v→KidR w' l v:=by
 intro l v h;induction h with
 | nil=>exact .nil
 | row hc _ hcap ih=>exact .row (fun i hi=>⟨Q4 (hc i hi).1 hb,Q4 (hc i hi).2.1 hb,Q4 (hc i hi).2.2.1 hb,Q4 (hc i hi).2.2.2.1 hb,Q4 (hc i hi).2.2.2.2 hb⟩) ih hcap
theorem KidR.form{w:World}{l:List Syn}{v:Value}(h:KidR w l v):∃(p:Option Addr) (c:Nat),v=.slice p l.length c:=by
 cases h with
 | nil=>exact⟨_,_,rfl⟩
 | row=>exact⟨_,_,rfl⟩
theorem KidR.cap{w:World}{l:List Syn}{p:Option Addr}{n c:Nat}(h:KidR w l (.slice p n c)):l.length≤c:=by
 cases h with
 | nil=>exact Nat.zero_le _
 | row _ _ hcap=>exact hcap
abbrev KidC(w:World)(b o:Nat)(t:Syn)(q:Option Addr)(d:Nat):Prop:=
 w.cell? ⟨b,o,none⟩=some (.int .i64 t.kind)∧w.cell? ⟨b,o+1,none⟩=some (.string ⟨t.text.toArray⟩)∧w.cell? ⟨b,o+2,none⟩=some (.int .i64 t.num) ∧
   w.cell? ⟨b,o+3,none⟩=some (.int .i64 t.pos)∧w.cell? ⟨b,o+4,none⟩=some (.slice q t.kids.length d)
theorem KidR.get{w:World}{l:List Syn}{p:Option Addr}{n c:Nat}(h:KidR w l (.slice p n c))(i:Nat)(hi:i<l.length):
  ∃b o q d,p=some (⟨b,o,none⟩:Addr)∧KidC w b (o+i*5) l[i] q d∧KidR w l[i].kids (.slice q l[i].kids.length d):=by
 cases h with
 | nil=>exact absurd hi (Nat.not_lt_zero _)
 | row hc hk hcap=>rename_i u _;have h1:=hk i hi;have h2:=hc i hi;obtain⟨q,d,e⟩:=h1.form;rw[e]at h1 h2;exact⟨_,_,q,d,rfl,h2,h1⟩
theorem beqI(a b:Int):(a==b)=decide (a=b):=by by_cases h:a=b<;>simp[h]
theorem five{w:World}{B:Nat}{k n a:Int}{tx:List UInt8}{v:Value}(h:w.heap[B]?=some (.cells #[.int .i64 k,.string ⟨List.toArray tx⟩,.int .i64 n,.int .i64 a,v] 31 (0,0))):
  w.cell? ⟨B,0,none⟩=some (.int .i64 k)∧w.cell? ⟨B,1,none⟩=some (.string ⟨List.toArray tx⟩)∧w.cell? ⟨B,2,none⟩=some (.int .i64 n)∧w.cell? ⟨B,3,none⟩=some (.int .i64 a)∧w.cell? ⟨B,4,none⟩=some v:=by
 refine⟨?_,?_,?_,?_,?_⟩<;>(rw[World.cell?,h];rfl)
abbrev boxed(w:World)(k:Int)(tx:List UInt8)(n a:Int)(p:Option Addr)(m c:Nat):World:=w.alloc (.cells #[.int .i64 k,.string ⟨List.toArray tx⟩,.int .i64 n,.int .i64 a,.slice p m c] 31)
theorem Ja(w:World)(k:Int)(tx:List UInt8)(n a:Int)(p:Option Addr)(m c:Nat):Below w.heap.size w (boxed w k tx n a p m c):=(Below.refl _ _).alloc (Nat.le_refl _) _
theorem Ju(w:World)(k:Int)(tx:List UInt8)(n a:Int)(p:Option Addr)(m c:Nat):(boxed w k tx n a p m c).heap[w.heap.size]?=some (.cells #[.int .i64 k,.string ⟨List.toArray tx⟩,.int .i64 n,.int .i64 a,.slice p m c] 31 (0,0)):=heap_alloc_new _ _
inductive Mod:Syn→Prop
 | mk {kd:Int} {tx:List UInt8} {n a:Int} {k:List Syn} (ht:tx.length≤1000000) (h:k.length≤100000) (hk:∀z∈k,Mod z):Mod (.mk kd tx n a k)
theorem Mod.text{t:Syn}(h:Mod t):t.text.length≤1000000:=by cases h;assumption
theorem Mod.len{t:Syn}(h:Mod t):t.kids.length≤100000:=by cases h;assumption
theorem Mod.kid{t:Syn}(h:Mod t):∀z∈t.kids,Mod z:=by cases h;assumption
end Go.Proofs.YtffimpicdclbgaaGreatDoor