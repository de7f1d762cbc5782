/- Joined: Tl, Up. -/
import Derived.Test.YtekccolabhfopaaGreatDoorJ41
set_option linter.unusedVariables false
set_option linter.unusedSimpArgs false
section
/- Plain facts: the readers, step by step, where the tokens from an index on are known; conditions, schemes and formulas in a program and in parentheses; no program in sight. -/
namespace Go.Proofs.YtekccolabhfopaaGreatDoor
/-- From index i on the tokens are those of K. -/
def Tl (U : List Tok) (i : Nat) (K : List KT) : Prop := (kts U).drop i = K
section
variable {U : List Tok} {i : Nat} {K : List KT} {x : KT} {res : List UInt8 → Bool}
theorem tl_get (h : Tl U i (x :: K)) : (kts U).getD i ktEnd = x := by
  have h1 : ((kts U).drop i)[0]? = some x := by rw [show (kts U).drop i = _ from h]; rfl
  rw [List.getElem?_drop, Nat.add_zero] at h1
  rw [List.getD_eq_getElem?_getD, h1]; rfl
theorem tl_next (h : Tl U i (x :: K)) : Tl U (i + 1) K := by
  unfold Tl at h ⊢
  rw [← List.drop_drop, h]; rfl
theorem tl_lt (h : Tl U i (x :: K)) : i < U.length := by
  have := congrArg List.length (show (kts U).drop i = _ from h)
  rw [List.length_drop, kts_len, List.length_cons] at this
  omega
theorem tl_drop {A B : List KT} (h : Tl U i (A ++ B)) : Tl U (i + A.length) B := by
  unfold Tl at h ⊢
  rw [← List.drop_drop, h, List.drop_left]
theorem tl_zero (h : kts U = K) : Tl U 0 K := h
theorem tl_kind (h : Tl U i (x :: K)) : (tk U i).kind = x.1 := by rw [tk_kind, tl_get h]
theorem tl_text (h : Tl U i (x :: K)) : (tk U i).text = x.2 := by rw [tk_text, tl_get h]
theorem tl_nx {y : KT} (h : Tl U i (x :: y :: K)) : nx U i = i + 1 := by unfold nx; rw [if_pos (tl_lt (tl_next h))]
theorem tl_isW (h : Tl U i (x :: K)) (ws : List (List UInt8)) : isW U ws i = ((decide (x.1 = 2) || decide (x.1 = 0)) && ws.contains x.2) := by unfold isW; rw [tl_kind h, tl_text h]
theorem tl_need {y : KT} {k : Int} {w : List UInt8} (h : Tl U i ((k, w) :: y :: K)) (hk : k = 2 ∨ k = 0) : need U w i = .ok (tk U i) (i + 1) := by
  unfold need
  rw [tl_isW h, tl_nx h, if_pos]
  rcases hk with rfl | rfl <;> simp
theorem tl_number {y : KT} {w : List UInt8} (h : Tl U i ((1, w) :: y :: K)) : number U i = .ok (.mk 9 [] (dv 0 w : Nat) (tk U i).pos []) (i + 1) := by
  unfold number
  rw [tl_kind h, tl_nx h, tl_text h, if_neg (fun h => h rfl)]
theorem tl_name {y : KT} {w : List UInt8} (h : Tl U i ((0, w) :: y :: K)) (hr : res w = false) : name res U i = .ok (.mk 8 w 0 (tk U i).pos []) (i + 1) := by
  unfold name
  rw [tl_kind h, tl_nx h, tl_text h, if_neg]
  rintro (h | h)
  · exact h rfl
  · rw [hr] at h; cases h
theorem tl_sub {T : List Tok} {B C : List KT} {b : KT} (hT : kts T = C ++ [ktEnd]) (hC : Toks C) (h : Tl U i (C ++ b :: B)) (hb : ∀ ws ∈ goesOn, ((decide (b.1 = 2) || decide (b.1 = 0)) && ws.contains b.2) = false) : SubT T U C.length i := by
  have hl : i ≤ (kts U).length := by
    have := congrArg List.length (show (kts U).drop i = _ from h)
    rw [List.length_drop, List.length_append, List.length_cons] at this
    omega
  have := sub_kts (A := (kts U).take i) hT hC (by rw [← h, List.take_append_drop]) hb
  rw [List.length_take, Nat.min_eq_left hl] at this
  exact this
/-- What a reader alone makes of a text it makes of the text's tokens amid others. -/
theorem tl_same {T : List Tok} {B C : List KT} {b : KT} {f f' dl j : Nat} {nt : NT} {t : Syn} (hT : kts T = C ++ [ktEnd]) (hC : Toks C) (h : Tl U i (C ++ b :: B)) (hb : ∀ ws ∈ goesOn, ((decide (b.1 = 2) || decide (b.1 = 0)) && ws.contains b.2) = false)
    (hf : f ≤ f') (ht : whole T (rd res T f nt) = .ok t j) :
    match rd res U f' nt dl i with | .ok y l => l = C.length + i ∧ Twin Any t y | .err _ e => e = 12 ∧ 0 < dl | .none => False :=
  whole_b (tl_sub hT hC h hb) (rd_b (tl_sub hT hC h hb) f f' nt hf) ht
theorem tl_same0 {T : List Tok} {B C : List KT} {b : KT} {f f' j : Nat} {nt : NT} {t : Syn} (hT : kts T = C ++ [ktEnd]) (hC : Toks C) (h : Tl U i (C ++ b :: B)) (hb : ∀ ws ∈ goesOn, ((decide (b.1 = 2) || decide (b.1 = 0)) && ws.contains b.2) = false)
    (hf : f ≤ f') (ht : whole T (rd res T f nt) = .ok t j) : ∃ y, rd res U f' nt 0 i = .ok y (i + C.length) ∧ Twin Any t y := by
  have h := tl_same (dl := 0) hT hC h hb hf ht
  cases hq : rd res U f' nt 0 i with
  | none => rw [hq] at h; exact h.elim
  | err p e => rw [hq] at h; exact absurd h.2 (Nat.lt_irrefl _)
  | ok y l =>
    rw [hq] at h
    obtain ⟨rfl, h⟩ := h
    exact ⟨y, by rw [Nat.add_comm], h⟩
theorem tl_lt' {A B : List KT} {b : KT} (h : Tl U i (A ++ b :: B)) : i < U.length := by
  have := congrArg List.length (show (kts U).drop i = _ from h)
  rw [List.length_drop, kts_len, List.length_append, List.length_cons] at this
  omega
theorem part_tl {f : Nat} {k : Int} {lv : Nat} {x : Syn} {n : Nat} (h : i + 1 < U.length) (hx : rd res U f .cond lv (i + 1) = .ok x n) : part res U f k lv i = .ok (.mk k [] 0 (tk U i).pos [x]) n := by
  unfold part
  rw [show nx U i = i + 1 from by unfold nx; rw [if_pos h], hx]; rfl
end
/-! A condition, a scheme and a formula in a program. -/
def w0 : List UInt8 := [112, 114, 111, 99, 101, 115, 115, 101, 115]
def embA : List UInt8 := [112, 114, 111, 99, 101, 115, 115, 101, 115, 32, 51, 59, 32, 116, 97, 115, 107, 32, 116, 32, 105, 110, 112, 117, 116, 115, 32, 50, 32, 111, 117, 116, 112, 117, 116, 115, 32, 52, 32, 119, 104, 101, 114, 101]
def embB : List UInt8 := [97, 108, 108, 111, 119]
def embC : List UInt8 := [32, 97, 100, 118, 101, 114, 115, 97, 114, 121, 32, 97, 32, 61]
def embD : List UInt8 := [32, 102, 111, 114, 109, 117, 108, 97, 32, 102, 32, 61]
def embE : List UInt8 := [32, 112, 114, 111, 98, 108, 101, 109, 32, 112, 32, 61, 32, 116, 32, 117, 110, 100, 101, 114, 32, 97, 32, 114, 111, 117, 110, 100, 115, 32, 49, 59]
def ktA : List KT := [(0, w0), (1, [51]), (2, [59]), (0, [116, 97, 115, 107]), (0, [116]), (0, [105, 110, 112, 117, 116, 115]), (1, [50]), (0, [111, 117, 116, 112, 117, 116, 115]), (1, [52]), (0, [119, 104, 101, 114, 101])]
def ktC : List KT := [(0, [97, 100, 118, 101, 114, 115, 97, 114, 121]), (0, [97]), (2, [61])]
def ktD : List KT := [(0, [102, 111, 114, 109, 117, 108, 97]), (0, [102]), (2, [61])]
def ktE : List KT := [(0, [112, 114, 111, 98, 108, 101, 109]), (0, [112]), (2, [61]), (0, [116]), (0, [117, 110, 100, 101, 114]), (0, [97]), (0, [114, 111, 117, 110, 100, 115]), (1, [49]), (2, [59]), ktEnd]
def embText (c s f : List UInt8) : List UInt8 := embA ++ 32 :: (c ++ 32 :: (embB ++ 32 :: (c ++ 59 :: (embC ++ 32 :: (s ++ 59 :: (embD ++ 32 :: (f ++ 59 :: embE)))))))
theorem lx_lit {l : List UInt8} {K : List KT} (h : (match scanL 0 l with | .ok ts => decide (kts ts = K) | .error _ => false) = true) : Lx l K := by
  split at h
  · rename_i ts hts
    have := lx_at hts
    rw [of_decide_eq_true h] at this
    exact this
  · cases h
theorem lx_emb {c s f : List UInt8} {C S F : List KT} (hc : Lx c (C ++ [ktEnd])) (hs : Lx s (S ++ [ktEnd])) (hf : Lx f (F ++ [ktEnd])) (nc : (35 : UInt8) ∉ c) (ns : (35 : UInt8) ∉ s) (nf : (35 : UInt8) ∉ f) :
    Lx (embText c s f) (ktA ++ (C ++ (0, embB) :: (C ++ (2, [59]) :: (ktC ++ (S ++ (2, [59]) :: (ktD ++ (F ++ (2, [59]) :: ktE))))))) := by
  have b1 : isWordy (32 : UInt8).toNat = false := by decide
  have b2 : (32 : UInt8) ≠ 61 := by decide
  have b3 : isBlank (32 : UInt8).toNat = true := by decide
  have c1 : isWordy (59 : UInt8).toNat = false := by decide
  have c2 : (59 : UInt8) ≠ 61 := by decide
  have hE : Lx embE ktE := lx_lit (by decide +kernel)
  have h1 := lx_cut c1 c2 nf hf (lx_sign (b := 59) (by simp) hE)
  have h2 := lx_cut (a := embD) (A := ktD) b1 b2 (by decide) (lx_lit (by decide +kernel)) (lx_blank b3 h1)
  have h3 := lx_cut c1 c2 ns hs (lx_sign (b := 59) (by simp) h2)
  have h4 := lx_cut (a := embC) (A := ktC) b1 b2 (by decide) (lx_lit (by decide +kernel)) (lx_blank b3 h3)
  have h5 := lx_cut c1 c2 nc hc (lx_sign (b := 59) (by simp) h4)
  have h6 := lx_cut (a := embB) (A := [(0, embB)]) b1 b2 (by decide) (lx_lit (by decide +kernel)) (lx_blank b3 h5)
  have h7 := lx_cut b1 b2 nc hc (lx_blank b3 h6)
  exact lx_cut (a := embA) (A := ktA) b1 b2 (by decide) (lx_lit (by decide +kernel)) (lx_blank b3 h7)
section
variable {U : List Tok} {res : List UInt8 → Bool} {f i : Nat}
theorem tl_needL {K : List KT} {k : Int} {w : List UInt8} (h : Tl U i ((k, w) :: K)) (hk : k = 2 ∨ k = 0) (hl : i + 1 < U.length) : need U w i = .ok (tk U i) (i + 1) := by
  unfold need
  rw [tl_isW h, show nx U i = i + 1 from by unfold nx; rw [if_pos hl], if_pos]
  rcases hk with rfl | rfl <;> simp
theorem isW_T {c : KT} {K : List KT} {ws : List (List UInt8)} (h : Tl U i (c :: K)) (e : ((decide (c.1 = 2) || decide (c.1 = 0)) && ws.contains c.2) = true) : isW U ws i = true := by rw [tl_isW h]; exact e
theorem isW_F {c : KT} {K : List KT} {ws : List (List UInt8)} (h : Tl U i (c :: K)) (e : ((decide (c.1 = 2) || decide (c.1 = 0)) && ws.contains c.2) = false) : ¬ isW U ws i = true := by rw [tl_isW h, e]; decide
theorem bind_okk {α β : Type} (a : α) (i : Nat) (f : α → Nat → Out β) : (Out.ok a i).bind f = f a i := rfl
theorem decl_task {C : List KT} {c : KT} {K : List KT} {x1 x2 : Syn} (r1 : res [116] = false)
    (h : Tl U i ((0, [116, 97, 115, 107]) :: (0, [116]) :: (0, [105, 110, 112, 117, 116, 115]) :: (1, [50]) :: (0, [111, 117, 116, 112, 117, 116, 115]) :: (1, [52]) :: (0, [119, 104, 101, 114, 101]) :: (C ++ (0, embB) :: (C ++ (2, [59]) :: c :: K))))
    (e1 : rd res U f .cond 0 (i + 1 + 1 + 1 + 1 + 1 + 1 + 1) = .ok x1 (i + 1 + 1 + 1 + 1 + 1 + 1 + 1 + C.length)) (e2 : rd res U f .cond 0 (i + 1 + 1 + 1 + 1 + 1 + 1 + 1 + C.length + 1) = .ok x2 (i + 1 + 1 + 1 + 1 + 1 + 1 + 1 + C.length + 1 + C.length)) :
    ∃ p1 p2 p3 p4, declaration res U f 0 i = .ok (.mk 1 [116] 2 p1 [.mk 9 [] 4 p2 [], .mk 2 [] 0 p3 [x1], .mk 3 [] 0 p4 [x2]]) (i + 1 + 1 + 1 + 1 + 1 + 1 + 1 + C.length + 1 + C.length + 1) := by
  have t4 := tl_next h
  have t5 := tl_next t4
  have t6 := tl_next t5
  have t7 := tl_next t6
  have t8 := tl_next t7
  have t9 := tl_next t8
  have t10 := tl_next t9
  have u0 := tl_drop (A := C) t10
  have u1 := tl_next u0
  have v0 := tl_drop (A := C) u1
  refine ⟨(tk U i).pos, (tk U (i + 1 + 1 + 1 + 1 + 1)).pos, (tk U (i + 1 + 1 + 1 + 1 + 1 + 1)).pos, (tk U (i + 1 + 1 + 1 + 1 + 1 + 1 + 1 + C.length)).pos, ?_⟩
  unfold declaration
  rw [if_pos (isW_T h (by decide)), tl_nx h, tl_name t4 r1]
  simp only [bind_okk, tl_need t5 (.inr rfl), tl_number t6, tl_need t7 (.inr rfl), tl_number t8, optPart]
  rw [if_pos (isW_T t9 (by decide)), part_tl (tl_lt' t10) e1]
  simp only [bind_okk, List.singleton_append]
  rw [if_pos (isW_T u0 (by decide)), part_tl (tl_lt' u1) e2]
  simp only [bind_okk, List.cons_append, List.nil_append]
  rw [if_neg (isW_F v0 (by decide))]
  simp only [bind_okk, tl_need v0 (.inl rfl)]
  rfl
theorem decl_adv {S : List KT} {c : KT} {K : List KT} {y1 : Syn} (r2 : res [97] = false) (h : Tl U i ((0, [97, 100, 118, 101, 114, 115, 97, 114, 121]) :: (0, [97]) :: (2, [61]) :: (S ++ (2, [59]) :: c :: K))) (e3 : rd res U f .scheme 0 (i + 1 + 1 + 1) = .ok y1 (i + 1 + 1 + 1 + S.length)) :
    ∃ p1, declaration res U f 0 i = .ok (.mk 5 [97] 0 p1 [y1]) (i + 1 + 1 + 1 + S.length + 1) := by
  have v2 := tl_next h
  have v3 := tl_next v2
  have v4 := tl_next v3
  have w0 := tl_drop (A := S) v4
  refine ⟨(tk U i).pos, ?_⟩
  unfold declaration
  rw [if_neg (isW_F h (by decide)), if_pos (isW_T h (by decide)), tl_nx h, tl_name v2 r2]
  simp only [bind_okk, tl_needL v3 (.inl rfl) (tl_lt' v4), e3, tl_need w0 (.inl rfl)]
  rfl
theorem decl_for {S : List KT} {c : KT} {K : List KT} {y1 : Syn} (r2 : res [102] = false) (h : Tl U i ((0, [102, 111, 114, 109, 117, 108, 97]) :: (0, [102]) :: (2, [61]) :: (S ++ (2, [59]) :: c :: K))) (e3 : rd res U f .formula 0 (i + 1 + 1 + 1) = .ok y1 (i + 1 + 1 + 1 + S.length)) :
    ∃ p1, declaration res U f 0 i = .ok (.mk 6 [102] 0 p1 [y1]) (i + 1 + 1 + 1 + S.length + 1) := by
  have v2 := tl_next h
  have v3 := tl_next v2
  have v4 := tl_next v3
  have w0 := tl_drop (A := S) v4
  refine ⟨(tk U i).pos, ?_⟩
  unfold declaration
  rw [if_neg (isW_F h (by decide)), if_neg (isW_F h (by decide)), if_pos (isW_T h (by decide)), tl_nx h, tl_name v2 r2]
  simp only [bind_okk, tl_needL v3 (.inl rfl) (tl_lt' v4), e3, tl_need w0 (.inl rfl)]
  rfl
theorem decl_prob (r1 : res [116] = false) (r2 : res [97] = false) (r4 : res [112] = false) (h : Tl U i ktE) :
    ∃ p1 p2 p3, declaration res U f 0 i = .ok (.mk 7 [112] 1 p1 [.mk 8 [116] 0 p2 [], .mk 8 [97] 0 p3 []]) (i + 1 + 1 + 1 + 1 + 1 + 1 + 1 + 1 + 1) ∧ (tk U (i + 1 + 1 + 1 + 1 + 1 + 1 + 1 + 1 + 1)).kind = 3 := by
  unfold ktE at h
  have a2 := tl_next h
  have a3 := tl_next a2
  have a4 := tl_next a3
  have a5 := tl_next a4
  have a6 := tl_next a5
  have a7 := tl_next a6
  have a8 := tl_next a7
  have a9 := tl_next a8
  have a10 := tl_next a9
  refine ⟨(tk U i).pos, (tk U (i + 1 + 1 + 1)).pos, (tk U (i + 1 + 1 + 1 + 1 + 1)).pos, ?_, tl_kind a10⟩
  unfold declaration
  rw [if_neg (isW_F h (by decide)), if_neg (isW_F h (by decide)), if_neg (isW_F h (by decide)), if_pos (isW_T h (by decide)), tl_nx h, tl_name a2 r4]
  simp only [bind_okk, tl_need a3 (.inl rfl), tl_name a4 r1, tl_need a5 (.inr rfl), tl_name a6 r2, tl_need a7 (.inr rfl), tl_number a8, tl_need a9 (.inl rfl)]
  rfl
end
/-- The tree of the program around a condition, a scheme and a formula. -/
inductive Emb (x y z : Syn) : Syn → Prop
  | mk {p0 p1 p2 p3 p4 p5 p6 p7 p8 p9 : Int} {x1 x2 y1 z1 : Syn} (h1 : Twin Any x x1) (h2 : Twin Any x x2) (h3 : Twin Any y y1) (h4 : Twin Any z z1) :
    Emb x y z (.mk 0 [] 3 p0 [.mk 1 [116] 2 p1 [.mk 9 [] 4 p2 [], .mk 2 [] 0 p3 [x1], .mk 3 [] 0 p4 [x2]], .mk 5 [97] 0 p5 [y1], .mk 6 [102] 0 p6 [z1], .mk 7 [112] 1 p7 [.mk 8 [116] 0 p8 [], .mk 8 [97] 0 p9 []]])
theorem emb_program {res : List UInt8 → Bool} {Tc Ts Tf U : List Tok} {C S F : List KT} {x y z : Syn} {jx jy jz fc fs ff fu : Nat} (r1 : res [116] = false) (r2 : res [97] = false) (r3 : res [102] = false) (r4 : res [112] = false)
    (hTc : kts Tc = C ++ [ktEnd]) (hTs : kts Ts = S ++ [ktEnd]) (hTf : kts Tf = F ++ [ktEnd]) (tc : Toks C) (ts : Toks S) (tf : Toks F)
    (hU : kts U = ktA ++ (C ++ (0, embB) :: (C ++ (2, [59]) :: (ktC ++ (S ++ (2, [59]) :: (ktD ++ (F ++ (2, [59]) :: ktE)))))))
    (gc : fc ≤ fu) (gs : fs ≤ fu) (gf : ff ≤ fu) (hx : whole Tc (rd res Tc fc .cond) = .ok x jx) (hy : whole Ts (rd res Ts fs .scheme) = .ok y jy) (hz : whole Tf (rd res Tf ff .formula) = .ok z jz) :
    ∃ t j, whole U (program res U fu) = .ok t j ∧ Emb x y z t := by
  have hgo : ∀ b : KT, (b = (2, [59]) ∨ b = (0, embB)) → ∀ ws ∈ goesOn, ((decide (b.1 = 2) || decide (b.1 = 0)) && ws.contains b.2) = false := by
    rintro b (rfl | rfl) <;> decide
  have t0 := tl_zero hU
  have t1 := tl_next t0
  have t2 := tl_next t1
  have t3 := tl_next t2
  have t9 : Tl U (3 + 1 + 1 + 1 + 1 + 1 + 1) _ := tl_next (tl_next (tl_next (tl_next (tl_next (tl_next t3)))))
  have hlen := tl_lt t9
  have t10 := tl_next t9
  obtain ⟨x1, e1, q1⟩ := tl_same0 (f' := fu) hTc tc t10 (hgo _ (.inr rfl)) gc hx
  have u0 := tl_drop (A := C) t10
  have u1 := tl_next u0
  obtain ⟨x2, e2, q2⟩ := tl_same0 (f' := fu) hTc tc u1 (hgo _ (.inl rfl)) gc hx
  have v0 := tl_drop (A := C) u1
  have v1 := tl_next v0
  obtain ⟨p1, p2, p3, p4, D1⟩ := decl_task (i := 3) r1 t3 e1 e2
  generalize 3 + 1 + 1 + 1 + 1 + 1 + 1 + 1 + C.length + 1 + C.length + 1 = I1 at D1 v1
  clear t10 u0 u1 v0 e1 e2
  have v4 := tl_next (tl_next (tl_next v1))
  obtain ⟨y1, e3, q3⟩ := tl_same0 (f' := fu) hTs ts v4 (hgo _ (.inl rfl)) gs hy
  have w1 := tl_next (tl_drop (A := S) v4)
  obtain ⟨p5, D2⟩ := decl_adv r2 v1 e3
  generalize I1 + 1 + 1 + 1 + S.length + 1 = I2 at D2 w1
  clear v4 e3
  have w4 := tl_next (tl_next (tl_next w1))
  obtain ⟨z1, e4, q4⟩ := tl_same0 (f' := fu) hTf tf w4 (hgo _ (.inl rfl)) gf hz
  have a1 := tl_next (tl_drop (A := F) w4)
  obtain ⟨p6, D3⟩ := decl_for r3 w1 e4
  generalize I2 + 1 + 1 + 1 + F.length + 1 = I3 at D3 a1
  clear w4 e4
  obtain ⟨p7, p8, p9, D4, k5⟩ := decl_prob r1 r2 r4 a1 (f := fu)
  generalize I3 + 1 + 1 + 1 + 1 + 1 + 1 + 1 + 1 + 1 = I4 at D4 k5
  have k1 : (tk U 3).kind ≠ 3 := by rw [tl_kind (i := 3) t3]; decide
  have k2 : (tk U I1).kind ≠ 3 := by rw [tl_kind v1]; decide
  have k3 : (tk U I2).kind ≠ 3 := by rw [tl_kind w1]; decide
  have k4 : (tk U I3).kind ≠ 3 := by rw [tl_kind a1]; decide
  have hL : declLoop res U fu 0 (U.length + 1) [] 3 = .ok [.mk 1 [116] 2 p1 [.mk 9 [] 4 p2 [], .mk 2 [] 0 p3 [x1], .mk 3 [] 0 p4 [x2]], .mk 5 [97] 0 p5 [y1], .mk 6 [102] 0 p6 [z1], .mk 7 [112] 1 p7 [.mk 8 [116] 0 p8 [], .mk 8 [97] 0 p9 []]] I4 := by
    obtain ⟨g, hg⟩ : ∃ g, U.length + 1 = g + 1 + 1 + 1 + 1 + 1 := ⟨U.length - 4, by omega⟩
    rw [hg, declLoop, if_neg k1, D1, bind_okk, declLoop, if_neg k2, D2, bind_okk, declLoop, if_neg k3, D3, bind_okk, declLoop, if_neg k4, D4, bind_okk, declLoop, if_pos k5]
    rfl
  refine ⟨_, I4, ?_, .mk (p0 := (tk U 0).pos) (p1 := p1) (p2 := p2) (p3 := p3) (p4 := p4) (p5 := p5) (p6 := p6) (p7 := p7) (p8 := p8) (p9 := p9) q1 q2 q3 q4⟩
  have hP : program res U fu 0 0 = .ok (.mk 0 [] 3 (tk U 0).pos [.mk 1 [116] 2 p1 [.mk 9 [] 4 p2 [], .mk 2 [] 0 p3 [x1], .mk 3 [] 0 p4 [x2]], .mk 5 [97] 0 p5 [y1], .mk 6 [102] 0 p6 [z1], .mk 7 [112] 1 p7 [.mk 8 [116] 0 p8 [], .mk 8 [97] 0 p9 []]]) I4 := by
    unfold program
    rw [show need U [112, 114, 111, 99, 101, 115, 115, 101, 115] 0 = .ok (tk U 0) (0 + 1) from tl_need t0 (.inr rfl)]
    simp only [bind_okk, tl_number t1, tl_need t2 (.inl rfl)]
    rw [hL]
    rfl
  unfold whole
  rw [hP, bind_okk, if_pos k5]
end Go.Proofs.YtekccolabhfopaaGreatDoor
end
section
/- Plain facts: readers that come to a known tree, or are too deep; parentheses; no program in sight. -/
namespace Go.Proofs.YtekccolabhfopaaGreatDoor
/-- A reader comes to a tree like x and to the token L, or is too deep. -/
def DO (x : Syn) (L : Nat) (o : Out Syn) : Prop := match o with | .ok y l => l = L ∧ Twin Any x y | .err _ e => e = 12 | .none => False
theorem DO.bind {x z : Syn} {L M : Nat} {o : Out Syn} {f : Syn → Nat → Out Syn} (h : DO x L o) (hf : ∀ y, Twin Any x y → DO z M (f y L)) : DO z M (o.bind f) := by
  cases o with
  | none => exact h
  | err p e => exact h
  | ok y l =>
    obtain ⟨rfl, h⟩ := h
    exact hf y h
theorem do_ok {x y : Syn} {L : Nat} (h : Twin Any x y) : DO x L (.ok y L) := ⟨rfl, h⟩
section
variable {U : List Tok} {res : List UInt8 → Bool} {f lv i L : Nat} {x y : Syn} {K : List KT} {c : KT}
theorem left_up {r : Rd} {ops : List (List UInt8)} (h : DO x L (r lv i)) (ho : ¬ isW U ops L = true) : DO x L (left U r ops lv i) := h.bind fun y hy => by
  unfold leftLoop
  rw [if_neg ho]
  exact do_ok hy
theorem within_up {r : Rd} (h : DO x L (r (lv + 1) i)) : DO x L (within U r lv i) := by
  unfold within
  split
  · rfl
  · exact h
theorem parens_up {r : Rd} {A B : List KT} (h0 : Tl U i ((2, [40]) :: A)) (hi : i + 1 < U.length) (h : DO x L (r (lv + 1) (i + 1))) (h1 : Tl U L ((2, [41]) :: c :: B)) : DO x (L + 1) (parens U r lv i) := by
  unfold parens
  rw [tl_needL h0 (.inl rfl) hi, bind_okk]
  refine (within_up h).bind fun y hy => ?_
  rw [tl_need h1 (.inl rfl), bind_okk]
  exact do_ok hy
theorem unit_paren {A : List KT} (h : Tl U i ((2, [40]) :: A)) : rd res U (f + 1) .unit lv i = parens U (rd res U f .cond) lv i := by
  rw [rd]
  dsimp only
  rw [if_neg (by rw [tl_kind h]; show ¬ (2 : Int) = 1; decide), if_neg (isW_F h (by decide)), if_neg (isW_F h (by decide)), if_neg (isW_F h (by decide)), if_pos (isW_T h (by decide))]
theorem atom_paren {A : List KT} (h : Tl U i ((2, [40]) :: A)) : rd res U (f + 1) .atom lv i = parens U (rd res U f .scheme) lv i := by
  rw [rd]
  dsimp only
  rw [if_neg (isW_F h (by decide)), if_neg (isW_F h (by decide)), if_neg (isW_F h (by decide)), if_pos (isW_T h (by decide))]
theorem lit_paren {A : List KT} (h : Tl U i ((2, [40]) :: A)) : rd res U (f + 1) .lit lv i = parens U (rd res U f .formula) lv i := by
  rw [rd]
  dsimp only
  rw [if_neg (isW_F h (by decide)), if_neg (isW_F h (by decide)), if_pos (isW_T h (by decide))]
/-- A token that goes on with none of some operators. -/
def noOp (ops : List (List UInt8)) (c : KT) : Prop := ((decide (c.1 = 2) || decide (c.1 = 0)) && ops.contains c.2) = false
theorem noOp.isW {ops : List (List UInt8)} (h : Tl U i (c :: K)) (hc : noOp ops c) : ¬ isW U ops i = true := isW_F h hc
/-- Up the levels of a condition. -/
theorem sum_up {B : List KT} (h : DO x L (rd res U f .unit lv i)) (hL : Tl U L (c :: B)) (hc : noOp [[43], [45]] c) : DO x L (rd res U (f + 1) .sum lv i) := left_up h (hc.isW hL)
theorem neg_up {A B : List KT} {d : KT} (h : DO x L (rd res U f .sum lv i)) (h0 : Tl U i (d :: A)) (hd : noOp [kNot] d) (hd2 : noOp [[97, 108, 108], [115, 111, 109, 101]] d) (hL : Tl U L (c :: B)) (hc : noOp [[61], [33, 61], [60], [60, 61]] c) : DO x L (rd res U (f + 1) .neg lv i) := by
  rw [rd]
  dsimp only
  rw [if_neg (hd.isW h0), if_neg (hd2.isW h0)]
  refine h.bind fun y hy => ?_
  rw [if_neg (hc.isW hL)]
  exact do_ok hy
theorem conj_up {B : List KT} (h : DO x L (rd res U f .neg lv i)) (hL : Tl U L (c :: B)) (hc : noOp [kAnd] c) : DO x L (rd res U (f + 1) .conj lv i) := left_up h (hc.isW hL)
theorem cond_up {B : List KT} (h : DO x L (rd res U f .conj lv i)) (hL : Tl U L (c :: B)) (hc : noOp [kOr] c) : DO x L (rd res U (f + 1) .cond lv i) := left_up h (hc.isW hL)
/-- Nothing goes on behind. -/
def noGo (c : KT) : Prop := ∀ ws ∈ goesOn, noOp ws c
theorem noGo.of {ws : List (List UInt8)} (h : noGo c) (hw : ws ∈ goesOn := by simp [goesOn]) : noOp ws c := h ws hw
theorem cond_paren {A B : List KT} {k : Nat} (h0 : Tl U i ((2, [40]) :: A)) (hi : i + 1 < U.length) (h : DO x L (rd res U f .cond (lv + 1) (i + 1))) (h1 : Tl U L ((2, [41]) :: c :: B)) (hc : noGo c) : DO x (L + 1) (rd res U (f + 5) .cond lv i) := by
  have h2 := tl_next h1
  have hu : DO x (L + 1) (rd res U (f + 1) .unit lv i) := by rw [unit_paren h0]; exact parens_up h0 hi h h1
  have hs := sum_up hu h2 hc.of
  have hn := neg_up hs h0 (by unfold noOp; decide) (by unfold noOp; decide) h2 hc.of
  exact cond_up (conj_up hn h2 hc.of) h2 hc.of
theorem factor_up {B : List KT} (h : DO x L (rd res U f .atom lv i)) (hL : Tl U L (c :: B)) (hc : noOp [[116, 104, 101, 110]] c) : DO x L (rd res U (f + 1) .factor lv i) := by
  rw [rd]
  dsimp only
  refine h.bind fun y hy => ?_
  rw [if_neg (hc.isW hL)]
  exact do_ok hy
theorem term_up {B : List KT} (h : DO x L (rd res U f .factor lv i)) (hL : Tl U L (c :: B)) (hc : noOp [kAnd] c) : DO x L (rd res U (f + 1) .term lv i) := left_up h (hc.isW hL)
theorem scheme_up {B : List KT} (h : DO x L (rd res U f .term lv i)) (hL : Tl U L (c :: B)) (hc : noOp [kOr] c) : DO x L (rd res U (f + 1) .scheme lv i) := left_up h (hc.isW hL)
theorem scheme_paren {A B : List KT} (h0 : Tl U i ((2, [40]) :: A)) (hi : i + 1 < U.length) (h : DO x L (rd res U f .scheme (lv + 1) (i + 1))) (h1 : Tl U L ((2, [41]) :: c :: B)) (hc : noGo c) : DO x (L + 1) (rd res U (f + 4) .scheme lv i) := by
  have h2 := tl_next h1
  have hu : DO x (L + 1) (rd res U (f + 1) .atom lv i) := by rw [atom_paren h0]; exact parens_up h0 hi h h1
  exact scheme_up (term_up (factor_up hu h2 hc.of) h2 hc.of) h2 hc.of
theorem meet_up {B : List KT} (h : DO x L (rd res U f .lit lv i)) (hL : Tl U L (c :: B)) (hc : noOp [kAnd] c) : DO x L (rd res U (f + 1) .meet lv i) := left_up h (hc.isW hL)
theorem disj_up {B : List KT} (h : DO x L (rd res U f .meet lv i)) (hL : Tl U L (c :: B)) (hc : noOp [kOr] c) : DO x L (rd res U (f + 1) .disj lv i) := left_up h (hc.isW hL)
theorem formula_up {B : List KT} (h : DO x L (rd res U f .disj lv i)) (hL : Tl U L (c :: B)) (hc : noOp [[117, 110, 116, 105, 108]] c) : DO x L (rd res U (f + 1) .formula lv i) := by
  rw [rd]
  dsimp only
  refine h.bind fun y hy => ?_
  rw [if_neg (hc.isW hL)]
  exact do_ok hy
theorem formula_paren {A B : List KT} (h0 : Tl U i ((2, [40]) :: A)) (hi : i + 1 < U.length) (h : DO x L (rd res U f .formula (lv + 1) (i + 1))) (h1 : Tl U L ((2, [41]) :: c :: B)) (hc : noGo c) : DO x (L + 1) (rd res U (f + 4) .formula lv i) := by
  have h2 := tl_next h1
  have hu : DO x (L + 1) (rd res U (f + 1) .lit lv i) := by rw [lit_paren h0]; exact parens_up h0 hi h h1
  exact formula_up (disj_up (meet_up hu h2 hc.of) h2 hc.of) h2 hc.of
end
/-- A text that is read to a tree. -/
structure Reads (res : List UInt8 → Bool) (nt : NT) (s : List UInt8) (x : Syn) (T : List Tok) (C : List KT) (f j : Nat) : Prop where
  lx : Lx s (C ++ [ktEnd])
  kt : kts T = C ++ [ktEnd]
  tk : Toks C
  no : (35 : UInt8) ∉ s
  rd : whole T (Proofs.YtekccolabhfopaaGreatDoor.rd res T f nt) = .ok x j
theorem noGo41 : noGo (2, [41]) := by unfold noGo noOp; decide
theorem noGoEnd : noGo ktEnd := by unfold noGo noOp; decide
section
variable {res : List UInt8 → Bool} {nt : NT} {s : List UInt8} {x : Syn} {T U : List Tok} {C : List KT} {f g j i lv : Nat}
theorem Reads.amid {B : List KT} {b : KT} (h : Reads res nt s x T C f j) (hU : Tl U i (C ++ b :: B)) (hb : noGo b) (hf : f ≤ g) : DO x (i + C.length) (Proofs.YtekccolabhfopaaGreatDoor.rd res U g nt lv i) := by
  have := tl_same (dl := lv) h.kt h.tk hU hb hf h.rd
  rw [Nat.add_comm]
  cases hq : Proofs.YtekccolabhfopaaGreatDoor.rd res U g nt lv i with
  | none => rw [hq] at this; exact this
  | err p e => rw [hq] at this; exact this.1
  | ok y l => rw [hq] at this; exact this
theorem sep32 : isWordy (32 : UInt8).toNat = false ∧ (32 : UInt8) ≠ 61 ∧ isBlank (32 : UInt8).toNat = true := by decide
theorem sep41 : isWordy (41 : UInt8).toNat = false ∧ (41 : UInt8) ≠ 61 := by decide
theorem whole_do {r : Rd} {L : Nat} (h : DO x L (r 0 0)) (hk : (Proofs.YtekccolabhfopaaGreatDoor.tk U L).kind = 3) : DO x L (whole U r) := by
  unfold whole
  refine h.bind fun y hy => ?_
  rw [if_pos hk]
  exact do_ok hy
/-- Two pairs of parentheses around a condition. -/
theorem par_cond (h : Reads res .cond s x T C f j) (hU : kts U = (2, [40]) :: (2, [40]) :: (C ++ [(2, [41]), (2, [41]), ktEnd])) (hf : f ≤ g) : DO x (C.length + 4) (whole U (Proofs.YtekccolabhfopaaGreatDoor.rd res U (g + 10) .cond)) := by
  have t0 := tl_zero hU
  have t1 := tl_next t0
  have t2 := tl_next t1
  have t3 := tl_drop (A := C) t2
  have h1 := h.amid (lv := 2) t2 noGo41 hf
  have h2 := cond_paren (lv := 1) (k := 0) t1 (tl_lt' t2) h1 t3 noGo41
  have h3 := cond_paren (lv := 0) (k := 0) t0 (tl_lt t1) h2 (tl_next t3) noGoEnd
  have t5 := tl_next (tl_next t3)
  have e : 0 + 1 + 1 + C.length + 1 + 1 = C.length + 4 := by omega
  rw [e] at h3 t5
  exact whole_do h3 (tl_kind t5)
theorem par_scheme (h : Reads res .scheme s x T C f j) (hU : kts U = (2, [40]) :: (C ++ [(2, [41]), ktEnd])) (hf : f ≤ g) : DO x (C.length + 2) (whole U (Proofs.YtekccolabhfopaaGreatDoor.rd res U (g + 4) .scheme)) := by
  have t0 := tl_zero hU
  have t2 := tl_next t0
  have t3 := tl_drop (A := C) t2
  have h1 := h.amid (lv := 1) t2 noGo41 hf
  have h3 := scheme_paren (lv := 0) t0 (tl_lt' t2) h1 t3 noGoEnd
  have t5 := tl_next t3
  have e : 0 + 1 + C.length + 1 = C.length + 2 := by omega
  rw [e] at h3 t5
  exact whole_do h3 (tl_kind t5)
theorem par_formula (h : Reads res .formula s x T C f j) (hU : kts U = (2, [40]) :: (C ++ [(2, [41]), ktEnd])) (hf : f ≤ g) : DO x (C.length + 2) (whole U (Proofs.YtekccolabhfopaaGreatDoor.rd res U (g + 4) .formula)) := by
  have t0 := tl_zero hU
  have t2 := tl_next t0
  have t3 := tl_drop (A := C) t2
  have h1 := h.amid (lv := 1) t2 noGo41 hf
  have h3 := formula_paren (lv := 0) t0 (tl_lt' t2) h1 t3 noGoEnd
  have t5 := tl_next t3
  have e : 0 + 1 + C.length + 1 = C.length + 2 := by omega
  rw [e] at h3 t5
  exact whole_do h3 (tl_kind t5)
/-- Conditions in parentheses as operands. -/
theorem par_oper (h : Reads res .cond s x T C f j) (hU : kts U = (0, kNot) :: (2, [40]) :: (C ++ (2, [41]) :: (0, kAnd) :: (1, [49]) :: (2, [60]) :: (2, [40]) :: (C ++ [(2, [41]), ktEnd]))) (hf : f ≤ g) :
    DO (.mk 11 kAnd 0 0 [.mk 12 [] 0 0 [x], .mk 11 [60] 0 0 [.mk 9 [] 1 0 [], x]]) (C.length + C.length + 8) (whole U (Proofs.YtekccolabhfopaaGreatDoor.rd res U (g + 10) .cond)) := by
  have t0 := tl_zero hU
  have t1 := tl_next t0
  have t2 := tl_next t1
  have t3 := tl_drop (A := C) t2
  have t4 := tl_next t3
  have t5 := tl_next t4
  have t6 := tl_next t5
  have t7 := tl_next t6
  have t8 := tl_next t7
  have t9 := tl_drop (A := C) t8
  have t10 := tl_next t9
  have n4 : noOp [[43], [45]] (0, kAnd) ∧ noOp [[61], [33, 61], [60], [60, 61]] (0, kAnd) := by unfold noOp; decide
  have n0 : noOp [kNot] (2, [40]) ∧ noOp [[97, 108, 108], [115, 111, 109, 101]] (2, [40]) := by unfold noOp; decide
  -- not ( .. )
  have h1 := h.amid (g := g + 4) (lv := 2) t2 noGo41 (by omega)
  have u1 : DO x (0 + 1 + 1 + C.length + 1) (Proofs.YtekccolabhfopaaGreatDoor.rd res U (g + 5) .unit 1 (0 + 1)) := by rw [unit_paren t1]; exact parens_up t1 (tl_lt' t2) h1 t3
  have s1 := sum_up u1 t4 n4.1
  have g1 := neg_up s1 t1 n0.1 n0.2 t4 n4.2
  have a1 : DO (.mk 12 [] 0 0 [x]) (0 + 1 + 1 + C.length + 1) (Proofs.YtekccolabhfopaaGreatDoor.rd res U (g + 8) .neg 0 0) := by
    rw [Proofs.YtekccolabhfopaaGreatDoor.rd]
    dsimp only
    rw [if_pos (isW_T t0 (by decide))]
    unfold notR
    rw [tl_nx t0]
    exact (within_up g1).bind fun y hy => do_ok (.mk trivial (.cons hy .nil))
  -- 1 < ( .. )
  have u3 : DO (.mk 9 [] 1 0 []) (0 + 1 + 1 + C.length + 1 + 1 + 1) (Proofs.YtekccolabhfopaaGreatDoor.rd res U (g + 6) .unit 0 (0 + 1 + 1 + C.length + 1 + 1)) := by
    rw [Proofs.YtekccolabhfopaaGreatDoor.rd]
    dsimp only
    rw [if_pos (by rw [tl_kind t5]), tl_number t5]
    exact do_ok (.mk trivial .nil)
  have s3 := sum_up u3 t6 (by unfold noOp; decide)
  have a2 : DO (.mk 11 [60] 0 0 [.mk 9 [] 1 0 [], x]) (0 + 1 + 1 + C.length + 1 + 1 + 1 + 1 + 1 + C.length + 1) (Proofs.YtekccolabhfopaaGreatDoor.rd res U (g + 8) .neg 0 (0 + 1 + 1 + C.length + 1 + 1)) := by
    rw [Proofs.YtekccolabhfopaaGreatDoor.rd]
    dsimp only
    rw [if_neg (isW_F t5 (by decide)), if_neg (isW_F t5 (by decide))]
    refine s3.bind fun y hy => ?_
    rw [if_pos (isW_T t6 (by decide)), tl_nx t6, tl_text t6]
    have s4 : DO x (0 + 1 + 1 + C.length + 1 + 1 + 1 + 1 + 1 + C.length + 1) (Proofs.YtekccolabhfopaaGreatDoor.rd res U (g + 7) .sum 0 (0 + 1 + 1 + C.length + 1 + 1 + 1 + 1)) := sum_up (f := g + 6) (by rw [unit_paren t7]; exact parens_up t7 (tl_lt' t8) (h.amid (g := g + 5) (lv := 1) t8 noGo41 (by omega)) t9) t10 noGoEnd.of
    exact s4.bind fun z hz => do_ok (.mk trivial (.cons hy (.cons hz .nil)))
  -- and
  have hlen := tl_lt t10
  have a3 : DO (.mk 11 kAnd 0 0 [.mk 12 [] 0 0 [x], .mk 11 [60] 0 0 [.mk 9 [] 1 0 [], x]]) (0 + 1 + 1 + C.length + 1 + 1 + 1 + 1 + 1 + C.length + 1) (Proofs.YtekccolabhfopaaGreatDoor.rd res U (g + 9) .conj 0 0) := by
    show DO _ _ (left U (Proofs.YtekccolabhfopaaGreatDoor.rd res U (g + 8) .neg) [kAnd] 0 0)
    unfold left
    refine a1.bind fun y hy => ?_
    obtain ⟨m, hm⟩ : ∃ m, U.length + 1 = m + 1 + 1 := ⟨U.length - 1, by omega⟩
    rw [hm, leftLoop, if_pos (isW_T t4 (by decide)), tl_nx t4, tl_text t4]
    refine a2.bind fun z hz => ?_
    rw [leftLoop, if_neg (isW_F t10 (by decide))]
    exact do_ok (.mk trivial (.cons hy (.cons hz .nil)))
  have a4 := cond_up a3 t10 noGoEnd.of
  have e : 0 + 1 + 1 + C.length + 1 + 1 + 1 + 1 + 1 + C.length + 1 = C.length + C.length + 8 := by omega
  rw [e] at a4 t10
  exact whole_do a4 (tl_kind t10)
end
end Go.Proofs.YtekccolabhfopaaGreatDoor
end
