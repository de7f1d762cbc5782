/- For every input, law35's FormulaPermutes returns true and the input reads behind the call as before. Conditions: the listed package-level variables read as listed when the call begins; the card ties them to the text. -/
import Derived.Test.YtakdifceogdioaaGreatDoorCards
import Derived.Test.YtakdifceogdioaaGreatDoorTie
import Derived.Stop.Joined
import Derived.Lay
import Derived.LaidOnce
import Derived.SevenTiedAt
import Derived.Carry
import Derived.SizedLaws
import Derived.Test.YtakdifceogdioaaGreatDoorM19
import Derived.Test.YtakdifceogdioaaGreatDoorM10
import Derived.Test.YtakdifceogdioaaGreatDoorM16
open Option.some renaming inj->Ap
set_option linter.unusedVariables false
set_option linter.unusedSimpArgs false
namespace Go
section
variable {H:Type} {enc:TypeId×Value->H}
theorem rIh{a:Assume}{C:Checked}{os:Os}{f:FuncId}{fn:Func}{s:ChangeSpec}{conds:List PathCond}{apart fresh hO aG:Bool}{X:World->Array Value->Prop}
    (hX:∀(w w':World) (args:Array Value),w.heap=w'.heap->X w args->X w' args)
    (own:ownKnob C.prog.godebug=none) (started:os.Started) (nI:C.prog.inits.idxOf? f=none) (jw:C.prog.funcs[f]?=some fn)
    (wT:∃(w:World) (tape:Tape) (i:Input),w.os=os/\(w.forCall tape i).Shaped C.prog/\i.vars=[]/\Input.okWide C.prog (w.forCall tape i) .any w.heap.size f i /\
      ((s.pre enc C.prog fn conds apart (w.forCall tape i).memory i.args/\X (w.forCall tape i).memory i.args)/\sizedMet enc C.prog fn (OpenSpec.ofChange s) apart (w.forCall tape i).memory i.args)/\a.holds C.prog (lone (Frame.enter C.prog f i.args .normal) [] (w.forCall tape i)))
    (cT:∀(W:World) (base:Nat) (args:Array Value) (ds gs:List (DataW H)) (before:List MemPlace),
      (∀(j:Nat) t v,fn.params[j]?=some t->args[j]?=some v->Value.okWide C.prog W .any base t v) ->
      DataW.Whole enc C.prog fn.params.toList s.vars apart W args.toList ds gs before ->
      conds.all (PathCond.test C.prog ⟨fn.params.toList,ds,s.plain.varTypes C.prog,gs⟩)=true ->
      X W args->W.ShapedOpen C.prog ->
      (DataW.weightsEach C.prog (fn.params.toList++s.plain.varTypes C.prog) (ds++gs)).all (·<=reachBytes)=true ->
      Calls C.prog f args W fun e W'=>∃v,e=.returned v/\s.post enc C.prog fn apart fresh hO aG W args v W'):
    ReturnsInHanded a C os f .any (fun w args=>(s.pre enc C.prog fn conds apart w args/\X w args)/\sizedMet enc C.prog fn (OpenSpec.ofChange s) apart w args) (s.post enc C.prog fn apart fresh hO aG):=by
  refine returnsInHanded_of_calls own started nI wT ?_;intro w tape i _ dr _ bp hpre hholds;obtain⟨_,_,_,fn',th,_,_,_,_,cw⟩:=bp;have e:fn'=fn:=Ap (th.symm.trans jw);subst e;obtain⟨⟨⟨ds,gs,before,hw,hc⟩,hx⟩,hz⟩:=hpre;have jG:=DataW.Whole.of_heap (w':=w.forCall tape i) (by rfl) hw;refine(cT (w.forCall tape i) w.heap.size i.args ds gs before cw jG hc (hX _ _ _ (by rfl) hx) dr (hz.weights hw)).mono fun e W' ⟨v,he,hp⟩=>?_
  subst he;exact ChangeSpec.post_blind hp
end
end Go
namespace Go.Proofs.YtakdifceogdioaaGreatDoor
open Go.Proofs.Tryz
open Go.ChangeShapes Go.WideShapes Go.ChangeAt Go.RowKit
open Go.ChangeMaps (open_string shut_string)
theorem oK0:ownKnob prog.godebug=none:=by kernel_rfl
abbrev laidL:List (String×DataW Unit):=Rows.formulaPermutesRow.laid
theorem eLd{W:World}(h:laidMetH prog laidL W)(dr:W.ShapedOpen prog):PEnv W:=by rw[MakeChecks.laidMetH_plain _ _ _ (by kernel_rfl)]at h;exact⟨Qsb h (by kernel_rfl),Qsp h (by kernel_rfl)⟩
set_option maxRecDepth 100000
theorem tLd{W:World}(h:laidMetH prog laidL W):TabW W:=by rw[MakeChecks.laidMetH_plain _ _ _ (by kernel_rfl)]at h;exact Qt8 h (by kernel_rfl)
theorem rLd{W:World}(h:laidMetH prog laidL W):Js W:=by rw[MakeChecks.laidMetH_plain _ _ _ (by kernel_rfl)]at h;exact Qqc h (by kernel_rfl)
theorem lUt:laidOutB prog=true:=by kernel_rfl
theorem lfd(os:Os)(started:os.Started)(H:Type)(enc:TypeId×Value->H):
    ReturnsInHanded {} Tryz.checked os 5 .any (fun w args=>(Rows.formulaPermutesSpec.pre enc prog Tryz.f5 [] false w args/\laidMetH prog laidL w)/\sizedMet enc prog Tryz.f5 (OpenSpec.ofChange Rows.formulaPermutesSpec) false w args)
      (Rows.formulaPermutesSpec.post enc prog Tryz.f5 false true false false):=by
  refine rIh (C:=Tryz.checked) (X:=fun w _=>laidMetH prog laidL w) (fun _ _ _ hh h=>h.of_heap hh) oK0 started (by kernel_rfl) func5
    (ChangeSpec.witness_shaped (enc:=enc) (C:=Tryz.checked) (os:=os) (X:=fun w _=>laidMetH prog laidL w) false (World.laidAll prog os laidL) #[.agg #[.int .i64 0,.int .i64 0,.int .i64 0,.int .i64 0,.int .i64 0,.slice none 0 0],.slice none 0 0,.int .i64 0] 8 (World.laidAll_os _ _ _)
      (World.shaped_of_ZipB (by kernel_rfl) (by kernel_rfl)) (by kernel_rfl) (by kernel_rfl) (by kernel_rfl)
      (by rw[MakeChecks.laidMetH_plain _ _ _ (by kernel_rfl)];exact laidMet_laidAll _ (by kernel_rfl) (by kernel_rfl))) ?_
  intro W base args ds gs before hval0 hW _ hL dr az;have cw:∀(j:Nat) t v,Tryz.f5.params[j]?=some t->args[j]?=some v->Value.okWide prog W .any base t v:=hval0;have qJ:=hW;obtain⟨p,q,lO,hV,rfl,iC,wW⟩:=hW;have hA:DataW.TrodAll enc prog W 0 (fun _=>true) true Tryz.f5.params.toList args.toList ds p:=lO;rw[Tryz.params5]at hA cw;obtain⟨v0,v1,v2,d0,d1,d2,p0,p1,p2,rfl,rfl,rfl,h0,h1,h2⟩:=trodAll_three hA;obtain⟨rfl,rfl⟩:=trodVars_none hV;clear lO hval0;simp only[List.append_nil]at qJ;rw[List.append_assoc]at qJ;have af:=fun x (hx:x∈_)=>qJ.lt x hx
  have k0:=h0;obtain⟨t0,q0,c0,rfl,s0⟩:=Qn1 (cw 0 24 v0 rfl rfl) h0;have k1:=h1;obtain⟨t1,q1,c1,rfl,s1⟩:=Qn2 (cw 1 45 v1 rfl rfl) h1;have k2:=h2;obtain⟨a2,rfl,rfl,rfl,w2⟩:=open_int underlying3 (cw 2 3 v2 rfl rfl) h2;refine(walkFPrm t0 q0 c0 t1 q1 c1 a2 W s0 s1 (eLd hL dr) (tLd hL) (rLd hL)).mono fun e W' ⟨he,hb⟩=>?_
  subst he;exact⟨_,rfl,_,_,_,[],_,[],qJ,trodAll_mk1 (shut_bool underlying4 _),trodAll_mk3 (Below.trod lUt (by kernel_rfl) (of_decide_eq_true (by kernel_rfl)) k0 hb (fun x hx=>af x (by first|exact hx|exact absurd hx (by simp;done)|(simp[hx];done)))) (Below.trod lUt (by kernel_rfl) (of_decide_eq_true (by kernel_rfl)) k1 hb (fun x hx=>af x (by first|exact hx|exact absurd hx (by simp;done)|(simp[hx];done)))) (Below.trod lUt (by kernel_rfl) (of_decide_eq_true (by kernel_rfl)) k2 hb (fun x hx=>af x (by first|exact hx|exact absurd hx (by simp;done)|(simp[hx];done)))),rfl,hb.frame _,fun h=>by cases h⟩
theorem holds:Rows.FormulaPermutesSaid:=
  OpenClaim.holds_of_wide 5 Tryz.f5 rfl rfl rfl rfl rfl rfl rfl ⟨rfl,rfl,rfl,rfl,rfl⟩ rfl rfl rfl rfl rfl (by kernel_rfl) func5 Qkh
    (of_decide_eq_true (by kernel_rfl)) (by unfold Func.isWrapper;first|(rw[if_pos (by decide +kernel)];kernel_rfl)|(rw[if_neg (by decide +kernel)];exact⟨rfl,rfl⟩))
    (fun os started H enc _=>lfd os started H enc)
theorem formulaPermutes_card:Rows.FormulaPermutesCardSaid:=
  Claim7.holds_tied_plain_at .later [] [.data,.data,.data,.data,.sentinel,.sentinel,.listed,.data,.widerDeep,.data,.pinned] true (true, "9c1dd7ffbbf93a748e772027250bb4bf0b9b79e9b6d1715c91e4037a842a7486") true
    holds (fun _ h=>by cases h) (by kernel_rfl) (fun _ h=>by cases h) formulaPermutes_row_tie rfl ⟨rfl,rfl⟩ (by kernel_rfl) rfl
    (fun f fn hf jw=>by
      obtain rfl:f=5:=Ap ((show prog.funcNamed "roundtable/roundtablelaw35.FormulaPermutes" = some 5 by kernel_rfl).symm.trans hf) |>.symm;obtain rfl:fn=Tryz.f5:=(Ap (func5.symm.trans jw)).symm;exact⟨by kernel_rfl,fun j t ht=>by
        rw[Tryz.params5]at ht;have h3:t=24∨t=45∨t=3:=by
          rcases j with _|j
          · simp at ht;simp[ht]
          rcases j with _|j
          · simp at ht;simp[ht]
          rcases j with _|j
          · simp at ht;simp[ht]
          · simp at ht
        rcases h3 with rfl|rfl|rfl
        · exact(show prog.wantsStandIn 24=false by kernel_rfl)
        · exact(show prog.wantsStandIn 45=false by kernel_rfl)
        · exact(show prog.wantsStandIn 3=false by kernel_rfl)⟩)
    Qkj
#print axioms formulaPermutes_card
end Go.Proofs.YtakdifceogdioaaGreatDoor