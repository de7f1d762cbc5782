/- For every input, law35's FormulaReturns returns true and the input reads behind the call as before. Conditions: the package-level variables that the row lists read as listed when the call begins; the card ties them to the program's text. -/
import Derived.Test.YtakdifceogdioaaGreatDoorCards
import Derived.Test.YtakdifceogdioaaGreatDoorTie
import Derived.Stop.Joined
import Derived.Lay
import Derived.LaidOnce
import Derived.SevenTiedAt
import Derived.Carry
import Derived.SizedLaws
import Derived.Test.YtakdifceogdioaaGreatDoorH24
import Derived.Test.YtakdifceogdioaaGreatDoorH22
import Derived.Test.YtakdifceogdioaaGreatDoorH16
import Derived.Test.YtakdifceogdioaaGreatDoorH11
open Option.some renaming inj->Ap
set_option linter.unusedVariables false
set_option linter.unusedSimpArgs false
set_option linter.unusedVariables false
namespace Go
section
variable {H:Type} {enc:TypeId×Value->H}
theorem returnsInHanded_of_change_and_shaped{a:Assume}{C:Checked}{os:Os}{f:FuncId}{fn:Func}{s:ChangeSpec}{conds:List PathCond}{apart fresh handsOn again:Bool}{X:World->Array Value->Prop}
    (hX:∀(w w':World) (args:Array Value),w.heap=w'.heap->X w args->X w' args)
    (own:ownKnob C.prog.godebug=none) (started:os.Started) (noInit:C.prog.inits.idxOf? f=none) (gL:C.prog.funcs[f]?=some fn)
    (witness:∃(w:World) (tape:Tape) (i:Input),w.os=os/\(w.forCall tape i).Shaped C.prog/\i.vars=[]/\Input.okWide C.prog (w.forCall tape i) .any w.heap.size f i /\
      ((s.pre enc C.prog fn conds apart (w.forCall tape i).memory i.args/\X (w.forCall tape i).memory i.args)/\sizedMet enc C.prog fn (OpenSpec.ofChange s) apart (w.forCall tape i).memory i.args)/\a.holds C.prog (lone (Frame.enter C.prog f i.args .normal) [] (w.forCall tape i)))
    (contract:∀(W:World) (base:Nat) (args:Array Value) (ds gs:List (DataW H)) (before:List MemPlace),
      (∀(j:Nat) t v,fn.params[j]?=some t->args[j]?=some v->Value.okWide C.prog W .any base t v) ->
      DataW.Whole enc C.prog fn.params.toList s.vars apart W args.toList ds gs before ->
      conds.all (PathCond.test C.prog ⟨fn.params.toList,ds,s.plain.varTypes C.prog,gs⟩)=true ->
      X W args->W.ShapedOpen C.prog ->
      (DataW.weightsEach C.prog (fn.params.toList++s.plain.varTypes C.prog) (ds++gs)).all (·<=reachBytes)=true ->
      Calls C.prog f args W fun e W'=>∃v,e=.returned v/\s.post enc C.prog fn apart fresh handsOn again W args v W'):
    ReturnsInHanded a C os f .any (fun w args=>(s.pre enc C.prog fn conds apart w args/\X w args)/\sizedMet enc C.prog fn (OpenSpec.ofChange s) apart w args) (s.post enc C.prog fn apart fresh handsOn again):=by
  refine returnsInHanded_of_calls own started noInit witness ?_;intro w tape i _ cI _ bi hpre hholds;obtain⟨_,_,_,fn',nl,_,_,_,_,bK⟩:=bi;have e:fn'=fn:=Ap (nl.symm.trans gL);subst e;obtain⟨⟨⟨ds,gs,before,hw,hc⟩,hx⟩,hz⟩:=hpre;have iP:=DataW.Whole.of_heap (w':=w.forCall tape i) (by rfl) hw;refine(contract (w.forCall tape i) w.heap.size i.args ds gs before bK iP hc (hX _ _ _ (by rfl) hx) cI (hz.weights hw)).mono fun e W' ⟨v,he,hp⟩=>?_
  subst he;exact ChangeSpec.post_blind hp
end
end Go
namespace Go.Proofs.YtakdifceogdioaaGreatDoor
open Go.Proofs.Tryz
open Go.ChangeShapes Go.WideShapes Go.ChangeAt Go.RowKit
open Go.ChangeMaps (open_string shut_string)
theorem ownKnob0:ownKnob prog.godebug=none:=by kernel_rfl
abbrev laidL:List (String×DataW Unit):=Rows.formulaReturnsRow.laid
theorem env_of_laid{W:World}(h:laidMetH prog laidL W)(cI:W.ShapedOpen prog):PEnv W:=by rw[MakeChecks.laidMetH_plain _ _ _ (by kernel_rfl)]at h;exact⟨Qi0 h (by kernel_rfl),Qi4 h (by kernel_rfl)⟩
set_option maxRecDepth 100000
theorem tabw_of_laid{W:World}(h:laidMetH prog laidL W):TabW W:=by rw[MakeChecks.laidMetH_plain _ _ _ (by kernel_rfl)]at h;exact Qig h (by kernel_rfl)
theorem rows35_of_laid{W:World}(h:laidMetH prog laidL W):Jp W:=by rw[MakeChecks.laidMetH_plain _ _ _ (by kernel_rfl)]at h;exact Qgo h (by kernel_rfl)
theorem laidOut:laidOutB prog=true:=by kernel_rfl
theorem lifted(os:Os)(started:os.Started)(H:Type)(enc:TypeId×Value->H):
    ReturnsInHanded {} Tryz.checked os 7 .any (fun w args=>(Rows.formulaReturnsSpec.pre enc prog Tryz.f7 [] false w args/\laidMetH prog laidL w)/\sizedMet enc prog Tryz.f7 (OpenSpec.ofChange Rows.formulaReturnsSpec) false w args)
      (Rows.formulaReturnsSpec.post enc prog Tryz.f7 false true false false):=by
  refine returnsInHanded_of_change_and_shaped (C:=Tryz.checked) (X:=fun w _=>laidMetH prog laidL w) (fun _ _ _ hh h=>h.of_heap hh) ownKnob0 started (by kernel_rfl) func7
    (ChangeSpec.witness_shaped (enc:=enc) (C:=Tryz.checked) (os:=os) (X:=fun w _=>laidMetH prog laidL w) false (World.laidAll prog os laidL) #[.agg #[.int .i64 0,.int .i64 0,.int .i64 0,.int .i64 0,.int .i64 0,.slice none 0 0],.int .i64 0] 8 (World.laidAll_os _ _ _)
      (World.shaped_of_ZipB (by kernel_rfl) (by kernel_rfl)) (by kernel_rfl) (by kernel_rfl) (by kernel_rfl)
      (by rw[MakeChecks.laidMetH_plain _ _ _ (by kernel_rfl)];exact laidMet_laidAll _ (by kernel_rfl) (by kernel_rfl))) ?_
  intro W base args ds gs before hval0 hW _ hL cI ay;have bK:∀(j:Nat) t v,Tryz.f7.params[j]?=some t->args[j]?=some v->Value.okWide prog W .any base t v:=hval0;have nn:=hW;obtain⟨p,q,jL,hV,rfl,gP,uk⟩:=hW;have hA:DataW.TrodAll enc prog W 0 (fun _=>true) true Tryz.f7.params.toList args.toList ds p:=jL;rw[Tryz.params7]at hA bK;obtain⟨v0,v1,d0,d1,p0,p1,rfl,rfl,rfl,h0,h1⟩:=trodAll_two hA;obtain⟨rfl,rfl⟩:=trodVars_none hV;clear jL hval0;simp only[List.append_nil]at nn;have af:=fun x (hx:x∈_)=>nn.lt x hx
  have k0:=h0;obtain⟨t0,q0,c0,rfl,s0⟩:=Qpx (bK 0 24 v0 rfl rfl) h0;have k1:=h1;obtain⟨a1,rfl,rfl,rfl,w1⟩:=open_int underlying3 (bK 1 3 v1 rfl rfl) h1;refine(walkFRet t0 q0 c0 a1 W s0 (env_of_laid hL cI) (tabw_of_laid hL) (rows35_of_laid hL)).mono fun e W' ⟨he,hb⟩=>?_
  subst he;exact⟨_,rfl,_,_,_,[],_,[],nn,trodAll_mk1 (shut_bool underlying4 _),trodAll_mk2 (Below.trod laidOut (by kernel_rfl) (of_decide_eq_true (by kernel_rfl)) k0 hb (fun x hx=>af x (by first|exact hx|exact absurd hx (by simp;done)|(simp[hx];done)))) (Below.trod laidOut (by kernel_rfl) (of_decide_eq_true (by kernel_rfl)) k1 hb (fun x hx=>af x (by first|exact hx|exact absurd hx (by simp;done)|(simp[hx];done)))),rfl,hb.frame _,fun h=>by cases h⟩
theorem holds:Rows.FormulaReturnsSaid:=
  OpenClaim.holds_of_wide 7 Tryz.f7 rfl rfl rfl rfl rfl rfl rfl ⟨rfl,rfl,rfl,rfl,rfl⟩ rfl rfl rfl rfl rfl (by kernel_rfl) func7 Q8u
    (of_decide_eq_true (by kernel_rfl)) (by unfold Func.isWrapper;first|(rw[if_pos (by decide +kernel)];kernel_rfl)|(rw[if_neg (by decide +kernel)];exact⟨rfl,rfl⟩))
    (fun os started H enc _=>lifted os started H enc)
theorem formulaReturns_card:Rows.FormulaReturnsCardSaid:=
  Claim7.holds_tied_plain_at .later [] [.data,.data,.data,.data,.sentinel,.sentinel,.listed,.data,.widerDeep,.data,.pinned] true (true, "9c1dd7ffbbf93a748e772027250bb4bf0b9b79e9b6d1715c91e4037a842a7486") true
    holds (fun _ h=>by cases h) (by kernel_rfl) (fun _ h=>by cases h) formulaReturns_row_tie rfl ⟨rfl,rfl⟩ (by kernel_rfl) rfl
    (fun f fn hf gL=>by
      obtain rfl:f=7:=Ap ((show prog.funcNamed "roundtable/roundtablelaw35.FormulaReturns" = some 7 by kernel_rfl).symm.trans hf) |>.symm;obtain rfl:fn=Tryz.f7:=(Ap (func7.symm.trans gL)).symm;exact⟨by kernel_rfl,fun j t ht=>by
        rw[Tryz.params7]at ht;have h3:t=24∨t=3:=by
          rcases j with _|j
          · simp at ht;simp[ht]
          rcases j with _|j
          · simp at ht;simp[ht]
          · simp at ht
        rcases h3 with rfl|rfl
        · exact(show prog.wantsStandIn 24=false by kernel_rfl)
        · exact(show prog.wantsStandIn 3=false by kernel_rfl)⟩)
    Q8v
#print axioms formulaReturns_card
end Go.Proofs.YtakdifceogdioaaGreatDoor