/- For every input, top's TopMeaningsKept returns true and the input reads behind the call as before. Conditions: the package-level variables that the row lists read as listed when the call begins; the card ties them to the program's text. -/
import Derived.Test.YtffimpicdclbgaaGreatDoorCards
import Derived.Test.YtffimpicdclbgaaGreatDoorTie
import Derived.Stop.Joined
import Derived.Lay
import Derived.LaidOnce
import Derived.SevenTiedAt
import Derived.Carry
import Derived.SizedLaws
import Derived.Test.YtffimpicdclbgaaGreatDoorN51
import Derived.Test.YtffimpicdclbgaaGreatDoorN19
import Derived.Test.YtffimpicdclbgaaGreatDoorN43
import Derived.Test.YtffimpicdclbgaaGreatDoorN33
set_option linter.unusedVariables false
set_option linter.unusedSimpArgs false
set_option linter.unusedVariables false
namespace Go
section
variable {H:Type} {enc:TypeId×Value→H}
theorem returnsInHanded_of_change_and_shaped{a:Assume}{C:Checked}{os:Os}{f:FuncId}{fn:Func}{s:ChangeSpec}{conds:List PathCond}{apart fresh handsOn again:Bool}{X:World→Array Value→Prop}
    (hX:∀(w w':World) (args:Array Value),w.heap=w'.heap→X w args→X w' args)
    (own:ownKnob C.prog.godebug=none) (started:os.Started) (noInit:C.prog.inits.idxOf? f=none) (hfn:C.prog.funcs[f]?=some fn)
    (witness:∃(w:World) (tape:Tape) (i:Input),w.os=os∧(w.forCall tape i).Shaped C.prog∧i.vars=[]∧Input.okWide C.prog (w.forCall tape i) .any w.heap.size f i ∧
      ((s.pre enc C.prog fn conds apart (w.forCall tape i).memory i.args∧X (w.forCall tape i).memory i.args)∧sizedMet enc C.prog fn (OpenSpec.ofChange s) apart (w.forCall tape i).memory i.args)∧a.holds C.prog (lone (Frame.enter C.prog f i.args .normal) [] (w.forCall tape i)))
    (contract:∀(W:World) (base:Nat) (args:Array Value) (ds gs:List (DataW H)) (before:List MemPlace),
      (∀(j:Nat) t v,fn.params[j]?=some t→args[j]?=some v→Value.okWide C.prog W .any base t v) →
      DataW.Whole enc C.prog fn.params.toList s.vars apart W args.toList ds gs before →
      conds.all (PathCond.test C.prog ⟨fn.params.toList,ds,s.plain.varTypes C.prog,gs⟩)=true →
      X W args→W.ShapedOpen C.prog →
      (DataW.weightsEach C.prog (fn.params.toList++s.plain.varTypes C.prog) (ds++gs)).all (·≤reachBytes)=true →
      Calls C.prog f args W fun e W'=>∃v,e=.returned v∧s.post enc C.prog fn apart fresh handsOn again W args v W'):
    ReturnsInHanded a C os f .any (fun w args=>(s.pre enc C.prog fn conds apart w args∧X w args)∧sizedMet enc C.prog fn (OpenSpec.ofChange s) apart w args) (s.post enc C.prog fn apart fresh handsOn again):=by
  refine returnsInHanded_of_calls own started noInit witness ?_;intro w tape i _ hsh _ hok hpre hholds;obtain⟨_,_,_,fn',hfn',_,_,_,_,hval⟩:=hok;have e:fn'=fn:=Option.some.inj (hfn'.symm.trans hfn);subst e;obtain⟨⟨⟨ds,gs,before,hw,hc⟩,hx⟩,hz⟩:=hpre;have hw':=DataW.Whole.of_heap (w':=w.forCall tape i) (by rfl) hw;refine(contract (w.forCall tape i) w.heap.size i.args ds gs before hval hw' hc (hX _ _ _ (by rfl) hx) hsh (hz.weights hw)).mono fun e W' ⟨v,he,hp⟩=>?_
  subst he;exact ChangeSpec.post_blind hp
end
end Go
namespace Go.Proofs.YtffimpicdclbgaaGreatDoor
open Go.Proofs.Tryz
open Go.ChangeShapes Go.WideShapes Go.ChangeAt Go.RowKit
open Go.ChangeMaps (open_string shut_string)
theorem ownKnob0:ownKnob prog.godebug=none:=by kernel_rfl
abbrev laidL:List (String×DataW Unit):=Rows.topMeaningsKeptRow.laid
theorem env_of_laid{W:World}(h:laidMetH prog laidL W)(hsh:W.ShapedOpen prog):PEnv W:=by rw[MakeChecks.laidMetH_plain _ _ _ (by kernel_rfl)]at h;exact⟨Qpm h (by kernel_rfl),Qpw h (by kernel_rfl)⟩
set_option maxRecDepth 100000
theorem tabw_of_laid{W:World}(h:laidMetH prog laidL W):TabW W:=by rw[MakeChecks.laidMetH_plain _ _ _ (by kernel_rfl)]at h;exact Qqi h (by kernel_rfl)
theorem rowsE_laid{W:World}(h:laidMetH prog laidL W):Js W∧Yv W:=by rw[MakeChecks.laidMetH_plain _ _ _ (by kernel_rfl)]at h;exact⟨Qnz h (by kernel_rfl),Qi4 h (by kernel_rfl)⟩
theorem laidOut:laidOutB prog=true:=by kernel_rfl
theorem lifted(os:Os)(started:os.Started)(H:Type)(enc:TypeId×Value→H):
    ReturnsInHanded {} Tryz.checked os 3 .any (fun w args=>(Rows.topMeaningsKeptSpec.pre enc prog Tryz.f3 [] false w args∧laidMetH prog laidL w)∧sizedMet enc prog Tryz.f3 (OpenSpec.ofChange Rows.topMeaningsKeptSpec) false w args)
      (Rows.topMeaningsKeptSpec.post enc prog Tryz.f3 false true false false):=by
  refine returnsInHanded_of_change_and_shaped (C:=Tryz.checked) (X:=fun w _=>laidMetH prog laidL w) (fun _ _ _ hh h=>h.of_heap hh) ownKnob0 started (by kernel_rfl) func3
    (ChangeSpec.witness_shaped (enc:=enc) (C:=Tryz.checked) (os:=os) (X:=fun w _=>laidMetH prog laidL w) false (World.laidAll prog os laidL) #[.string ByteArray.empty,.agg #[.int .i64 0,.slice none 0 0,.slice none 0 0,.int .i64 0,.int .i64 0,.int .i64 0,.int .i64 0,.int .i64 0,.slice none 0 0]] 8 (World.laidAll_os _ _ _)
      (World.shaped_of_ZipB (by kernel_rfl) (by kernel_rfl)) (by kernel_rfl) (by kernel_rfl) (by kernel_rfl)
      (by rw[MakeChecks.laidMetH_plain _ _ _ (by kernel_rfl)];exact laidMet_laidAll _ (by kernel_rfl) (by kernel_rfl))) ?_
  intro W base args ds gs before hval0 hW _ hL hsh hsz;have hval:∀(j:Nat) t v,Tryz.f3.params[j]?=some t→args[j]?=some v→Value.okWide prog W .any base t v:=hval0;have hW':=hW;obtain⟨p,q,hA0,hV,rfl,hfz,hnd⟩:=hW;have hA:DataW.TrodAll enc prog W 0 (fun _=>true) true Tryz.f3.params.toList args.toList ds p:=hA0;rw[Tryz.params3]at hA hval;obtain⟨v0,v1,d0,d1,p0,p1,rfl,rfl,rfl,h0,h1⟩:=trodAll_two hA;obtain⟨rfl,rfl⟩:=trodVars_none hV;clear hA0 hval0;simp only[List.append_nil]at hW';have hlt:=fun x (hx:x∈_)=>hW'.lt x hx
  have k0:=h0;obtain⟨a0,rfl,rfl,rfl,w0⟩:=open_string underlying9 (hval 0 9 v0 rfl rfl) h0;have k1:=h1;obtain⟨n1,i1,o1,u1,y0,y1,y2,y3,y4,q1,q1',q1'',c1,c1',c1'',rfl,s1,s1'⟩:=Qm2 (hval 1 25 v1 rfl rfl) h1;refine(walkTMk a0 n1 y0 y1 y2 y3 y4 i1 o1 q1 q1' q1'' c1 c1' u1.length c1'' W w0 s1 s1' (env_of_laid hL hsh) (tabw_of_laid hL) (rowsE_laid hL).1 (rowsE_laid hL).2).mono fun e W' ⟨he,hb⟩=>?_
  subst he;exact⟨_,rfl,_,_,_,[],_,[],hW',trodAll_mk1 (shut_bool underlying4 _),trodAll_mk2 (Below.trod laidOut (by kernel_rfl) (of_decide_eq_true (by kernel_rfl)) k0 hb (fun x hx=>hlt x (by first|exact hx|exact absurd hx (by simp;done)|(simp[hx];done)))) (Below.trod laidOut (by kernel_rfl) (of_decide_eq_true (by kernel_rfl)) k1 hb (fun x hx=>hlt x (by first|exact hx|exact absurd hx (by simp;done)|(simp[hx];done)))),rfl,hb.frame _,fun h=>by cases h⟩
theorem holds:Rows.TopMeaningsKeptSaid:=
  OpenClaim.holds_of_wide 3 Tryz.f3 rfl rfl rfl rfl rfl rfl rfl ⟨rfl,rfl,rfl,rfl,rfl⟩ rfl rfl rfl rfl rfl (by kernel_rfl) func3 Qjn
    (of_decide_eq_true (by kernel_rfl)) (by unfold Func.isWrapper;first|(rw[if_pos (by decide +kernel)];kernel_rfl)|(rw[if_neg (by decide +kernel)];exact⟨rfl,rfl⟩))
    (fun os started H enc _=>lifted os started H enc)
theorem topMeaningsKept_card:Rows.TopMeaningsKeptCardSaid:=
  Claim7.holds_tied_plain_at .later [] [.data,.data,.data,.data,.data,.data,.sentinel,.sentinel,.listed,.data,.widerDeep,.pinned] true (true, "4e878f0b3aa1da2e0709bb66a4bc85ef206ce62017d34f6a8366e2fd01025541") true
    holds (fun _ h=>by cases h) (by kernel_rfl) (fun _ h=>by cases h) topMeaningsKept_row_tie rfl ⟨rfl,rfl⟩ (by kernel_rfl) rfl
    (fun f fn hf hfn=>by
      obtain rfl:f=3:=Option.some.inj ((show prog.funcNamed "roundtable/roundtabletop.TopMeaningsKept" = some 3 by kernel_rfl).symm.trans hf) |>.symm;obtain rfl:fn=Tryz.f3:=(Option.some.inj (func3.symm.trans hfn)).symm;exact⟨by kernel_rfl,fun j t ht=>by
        rw[Tryz.params3]at ht;have h3:t=9∨t=25:=by
          rcases j with _|j
          · simp at ht;simp[ht]
          rcases j with _|j
          · simp at ht;simp[ht]
          · simp at ht
        rcases h3 with rfl|rfl
        · exact(show prog.wantsStandIn 9=false by kernel_rfl)
        · exact(show prog.wantsStandIn 25=false by kernel_rfl)⟩)
    Qjp
#print axioms topMeaningsKept_card
end Go.Proofs.YtffimpicdclbgaaGreatDoor