/- Plain functions: what is a text of a kind of tokens; Join. -/
import Derived.Test.YtpgedklpnnhjlaaGreatDoorScan
namespace Go.Proofs.YtpgedklpnnhjlaaGreatDoor

/-- Is a text one of a kind of tokens? -/
def formedB (kind : Int) (s : List UInt8) : Bool :=
  if kind = 3 then s.isEmpty
  else if kind = 2 then decide (s ∈ signTexts)
  else !s.isEmpty && decide (runLen isWordy s = s.length) && decide ((wordRes s).2.2 = 0) && decide (((wordRes s).1 : Int) = kind)
def wordlyB (kind : Int) : Bool := decide (kind = 0) || decide (kind = 1)
/-- Must a blank stand between two tokens? -/
def gap (p t : Tok) : Bool := (wordlyB p.kind && wordlyB t.kind) || (decide (p.text = [60]) && decide (t.text = [61]))
/-- The error of a token (last: is it the last one?). -/
def errTok (last : Bool) (t : Tok) : Nat :=
  if t.kind < 0 ∨ 3 < t.kind then 1 else if formedB t.kind t.text = false then 3 else if t.kind = 3 ∧ last = false then 14 else 0
def joinErrs : List Tok → Nat
  | [] => 0
  | t :: r => if errTok r.isEmpty t = 0 then joinErrs r else errTok r.isEmpty t
def joinGo : Option Tok → List Tok → List UInt8
  | _, [] => []
  | none, t :: r => t.text ++ joinGo (some t) r
  | some p, t :: r => (if gap p t then [32] else []) ++ (t.text ++ joinGo (some t) r)
def join (l : List Tok) : Except Nat (List UInt8) :=
  if 65536 < l.length then .error 5
  else if joinErrs l ≠ 0 then .error (joinErrs l)
  else if 65536 < (joinGo none l).length then .error 13
  else .ok (joinGo none l)
def prevTok (ts : List Tok) (k : Nat) : Option Tok := if k = 0 then none else ts[k - 1]?

theorem joinErrs_step {ts : List Tok} {k : Nat} (h : k < ts.length) (h0 : errTok (decide (k + 1 = ts.length)) ts[k] = 0) : joinErrs (ts.drop k) = joinErrs (ts.drop (k + 1)) := by
  rw [List.drop_eq_getElem_cons h, joinErrs]
  have : (ts.drop (k + 1)).isEmpty = decide (k + 1 = ts.length) := by
    rw [Bool.eq_iff_iff]; simp; omega
  rw [this, if_pos h0]
theorem joinErrs_stop {ts : List Tok} {k : Nat} (h : k < ts.length) (h0 : errTok (decide (k + 1 = ts.length)) ts[k] ≠ 0) : joinErrs (ts.drop k) = errTok (decide (k + 1 = ts.length)) ts[k] := by
  rw [List.drop_eq_getElem_cons h, joinErrs]
  have : (ts.drop (k + 1)).isEmpty = decide (k + 1 = ts.length) := by
    rw [Bool.eq_iff_iff]; simp; omega
  rw [this, if_neg h0]
theorem joinGo_step {ts : List Tok} {k : Nat} (h : k < ts.length) :
    joinGo (prevTok ts k) (ts.drop k) = (if ∃ p, prevTok ts k = some p ∧ gap p ts[k] = true then [32] else []) ++ (ts[k].text ++ joinGo (prevTok ts (k + 1)) (ts.drop (k + 1))) := by
  have e : prevTok ts (k + 1) = some ts[k] := by simp [prevTok, h]
  rw [List.drop_eq_getElem_cons h, e]
  cases hp : prevTok ts k with
  | none => simp [joinGo]
  | some p => by_cases hg : gap p ts[k] <;> simp [joinGo, hg]
end Go.Proofs.YtpgedklpnnhjlaaGreatDoor
