import PyProof.Rows.All
import Wide.All
import OpenK.AllK
import Wide.FinOn
import HandS.ForMost
import HandS.IsInst
import HandS.WideBits
import HandS.Wide
import HandS.EndBits
import HandS.Evl
import HandS.More
import HandS.DictComp
import PySem.Challenge.RW_dotpress_k06_one_gate
set_option Elab.async false
set_option linter.all false
set_option maxRecDepth 100000
set_option maxHeartbeats 4000000


namespace Dpr
open PySem PySem.Spec PyProof.Rows L2
/-! ### steps of a reading, one a construct -/
section
variable {K : PySem.W.Frag} {D : Ends} {σ : L2.St} {H : Hp} {Q : VK} {QB : Bool → Hp → Prop} {QA : List V → Hp → Prop} {ta tb tc te : TE} {t u : TS} {c : TT} {g : TG} {r r' : R2} {v x y : V}
theorem w_seq (h : t { D with nx := u D } σ H) : tSeq t u D σ H := h
theorem w_cut (M : L2.St → Hp → Prop) (h : t { D with nx := M } σ H) (k : ∀ σ' H', M σ' H' → u D σ' H') : Evl.tCut t u D σ H := ⟨M, h, k⟩
theorem w_asg {i : Nat} (h : te σ H fun v H1 => D.nx (σ.set i (some v)) H1) : tAsg te (gName i) D σ H := h
theorem w_asgG (h : te σ H fun v H1 => g v σ H1 D.nx) : tAsg te g D σ H := h
theorem w_drop (h : te σ H fun _ H1 => D.nx σ H1) : tDrop te D σ H := h
theorem w_ret (h : te σ H D.rt) : tRet te D σ H := h
theorem w_retN (h : D.rt .non H) : tRetN D σ H := h
theorem w_next (h : D.nx σ H) : tNext D σ H := h
theorem w_cont (h : D.ct σ H) : tCont D σ H := h
theorem w_brk (h : D.bk σ H) : tBreak D σ H := h
theorem w_if (h : c σ H fun b H1 => if b = true then t D σ H1 else u D σ H1) : tIfS c t u D σ H := h
theorem w_aug {i : Nat} {ti : TIp} (hx : σ[i]? = some (some x)) (h : te σ H fun y H1 => ti x y H1 fun z H2 => D.nx (σ.set i (some z)) H2) : tAug i te ti D σ H := ⟨x, hx, h⟩
theorem w_ipI {f : Int → Int → Int} {i j : Int} (h : Q (.int (f i j)) H) : ipI f (.int i) (.int j) H Q := ⟨i, j, rfl, rfl, h⟩
theorem w_var {i : Nat} (hx : σ[i]? = some (some v)) (h : Q v H) : tVar i σ H Q := ⟨v, hx, h⟩
theorem w_c (h : Q v H) : tC v σ H Q := h
theorem w_op (h : ta σ H fun x H1 => tb σ H1 fun y H2 => r x y H2 Q) : tOp r ta tb σ H Q := h
theorem w_un {f : V → Hp → VK → Prop} (h : ta σ H fun x H1 => f x H1 Q) : tUn f ta σ H Q := h
theorem w_chain (h : ta σ H fun x H1 => tb σ H1 fun y H2 => r x y H2 fun z H3 => ∃ k, z = .bl k ∧ (if k = true then tc σ H3 fun w' H4 => r' y w' H4 Q else Q (.bl false) H3)) : tChain r r' ta tb tc σ H Q := h
theorem w_test (h : te σ H fun x H1 => ∃ k, x = .bl k ∧ QB k H1) : tTest te σ H QB := h
theorem w_tB (h : te σ H fun x H1 => ∃ k, x = .bl k ∧ QB k H1) : tB te σ H QB := h
theorem w_bl {b : Bool} {P : Bool → Prop} (h : P b) : ∃ k, V.bl b = .bl k ∧ P k := ⟨b, rfl, h⟩
theorem w_and {t u : TT} (h : t σ H fun c H1 => if c = true then u σ H1 QB else QB false H1) : tAnd t u σ H QB := h
theorem w_or {t u : TT} (h : t σ H fun c H1 => if c = true then QB true H1 else u σ H1 QB) : tOr t u σ H QB := h
theorem w_not {t : TT} (h : t σ H fun c H1 => QB (!c) H1) : tNot t σ H QB := h
theorem w_andV (h : ta σ H fun x H1 => ∃ c, x = .bl c ∧ if c = true then tb σ H1 Q else Q (.bl false) H1) : tAndV ta tb σ H Q := h
theorem w_orV (h : ta σ H fun x H1 => ∃ c, x = .bl c ∧ if c = true then Q (.bl true) H1 else tb σ H1 Q) : tOrV ta tb σ H Q := h
theorem w_notV (h : ta σ H fun x H1 => ∃ c, x = .bl c ∧ Q (.bl (!c)) H1) : tNotV ta σ H Q := h
theorem w_ifx {t : TT} (h : t σ H fun c H1 => if c = true then ta σ H1 Q else tb σ H1 Q) : tIf t ta tb σ H Q := h
theorem w_nil (h : QA [] H) : tNil σ H QA := h
theorem w_cons {tr : TA} (h : ta σ H fun x H1 => tr σ H1 fun xs H2 => QA (x :: xs) H2) : tCons ta tr σ H QA := h
/-- a new tuple, a new list: the heap is a letter -/
def AlT (xs : List V) (H : Hp) (Q : VK) : Prop := xs.length ≤ sizeLine ∧ ∀ p, H p = none → Q (.ref p) (upd H p (.tup xs))
def AlL (xs : List V) (H : Hp) (Q : VK) : Prop := xs.length ≤ sizeLine ∧ ∀ p, H p = none → Q (.ref p) (upd H p (.lst xs))
theorem same_upd {H : Hp} {p : Addr} {o : HO} (h : H p = none) : Same H (upd H p o) := fun b x e => by
  rw [upd_ne (ne_of_none e h)]
  exact e
theorem w_tup {s : TA} (h : s σ H fun xs H1 => AlT xs H1 Q) : tTup s σ H Q := h
theorem w_lst {s : TA} (h : s σ H fun xs H1 => AlL xs H1 Q) : tLst s σ H Q := h
theorem sz_le {n : Nat} (h : Nat.ble n 1000 = true) : n ≤ sizeLine := Nat.le_trans (Nat.le_of_ble_eq_true h) (by rw [sizeLine_eq]; decide)
theorem w_alT {xs : List V} (hl : xs.length ≤ sizeLine) (h : ∀ p H', H p = none → Same H H' → H' p = some (.tup xs) → Q (.ref p) H') : AlT xs H Q := ⟨hl, fun p hp => h p _ hp (same_upd hp) upd_same⟩
theorem w_alL {xs : List V} (hl : xs.length ≤ sizeLine) (h : ∀ p H', H p = none → Same H H' → H' p = some (.lst xs) → Q (.ref p) H') : AlL xs H Q := ⟨hl, fun p hp => h p _ hp (same_upd hp) upd_same⟩
theorem w_call {sp : Sp} {dvs : List V} {E : XK} {s : TA} (h : s σ H fun vs H1 => sp (vs ++ dvs) H1 Q E) : tCall sp dvs E s σ H Q := h
theorem w_cb {f : List V → Hp → VK → Prop} {s : TA} (h : s σ H fun vs H1 => f vs H1 Q) : tCB f s σ H Q := h
theorem w_I0 {f : Int → Int → V} {i j : Int} (h : Q (f i j) H) : rI0 f (.int i) (.int j) H Q := ⟨i, j, rfl, rfl, h⟩
theorem w_I {C : Int → Int → Prop} {f : Int → Int → V} {i j : Int} (hc : C i j) (h : Q (f i j) H) : rI C f (.int i) (.int j) H Q := ⟨i, j, rfl, rfl, hc, h⟩
theorem w_U {f : Int → V} {i : Int} (h : Q (f i) H) : rU f (.int i) H Q := ⟨i, rfl, h⟩
theorem w_eq (hs : scal x y = true) (h : Q (.bl (decide (x = y))) H) : rEq x y H Q := ⟨hs, h⟩
theorem w_ne (hs : scal x y = true) (h : Q (.bl (!decide (x = y))) H) : rNe x y H Q := ⟨hs, h⟩
theorem w_bits {i : Int} (h : Q (.int (Builtin.Int.intBits i : Nat)) H) : (∃ j, V.int i = .int j ∧ Q (.int (Builtin.Int.intBits j : Nat)) H) := ⟨i, rfl, h⟩
theorem w_tbits (h : te σ H fun x H1 => ∃ i, x = .int i ∧ Q (.int (Builtin.Int.intBits i : Nat)) H1) : tBits te σ H Q := h
theorem w_ixL {p : Addr} {xs : List V} {i : Int} (hl : SqL K H p xs) (ha : atI xs i = some v) (h : Q v H) : rIxL K (.ref p) (.int i) H Q := ⟨p, xs, i, v, rfl, rfl, hl, ha, h⟩
theorem w_ixT {p : Addr} {xs : List V} {i : Int} (hl : SqT K H p xs) (ha : atI xs i = some v) (h : Q v H) : rIxT K (.ref p) (.int i) H Q := ⟨p, xs, i, v, rfl, rfl, hl, ha, h⟩
/-! tests -/
theorem w_itT {A B : Prop} (h : A) : if true = true then A else B := by rw [if_pos rfl]; exact h
theorem w_itF {A B : Prop} (h : B) : if false = true then A else B := by rw [if_neg Bool.false_ne_true]; exact h
theorem w_itC {b : Bool} {A B : Prop} (e : b = true) (h : A) : if b = true then A else B := by rw [if_pos e]; exact h
theorem w_itD {b : Bool} {A B : Prop} (e : b = false) (h : B) : if b = true then A else B := by rw [e, if_neg Bool.false_ne_true]; exact h
theorem w_itI {i j : Int} {A B : Prop} (h1 : i = j → A) (h2 : i ≠ j → B) : if decide (V.int i = V.int j) = true then A else B := by
  by_cases e : i = j
  · rw [if_pos (by rw [e]; exact decide_eq_true rfl)]; exact h1 e
  · rw [if_neg (fun z => e (V.int.inj (of_decide_eq_true z)))]; exact h2 e
theorem w_itN {i j : Int} {A B : Prop} (h1 : i ≠ j → A) (h2 : i = j → B) : if (!decide (V.int i = V.int j)) = true then A else B := by
  by_cases e : i = j
  · rw [e, decide_eq_true rfl]; exact w_itF (h2 e)
  · rw [decide_eq_false (fun z => e (V.int.inj z))]; exact w_itT (h1 e)
theorem w_itd {p A B : Prop} [Decidable p] (h1 : p → A) (h2 : ¬ p → B) : if decide p = true then A else B := by
  by_cases e : p
  · rw [if_pos (decide_eq_true e)]; exact h1 e
  · rw [if_neg (fun z => e (of_decide_eq_true z))]; exact h2 e
theorem w_itn {p A B : Prop} [Decidable p] (h1 : ¬ p → A) (h2 : p → B) : if (!decide p) = true then A else B := by
  by_cases e : p
  · rw [decide_eq_true e]; exact w_itF (h2 e)
  · rw [decide_eq_false e]; exact w_itT (h1 e)
theorem w_itb {b : Bool} {A B : Prop} (h1 : b = true → A) (h2 : b = false → B) : if b = true then A else B := by
  cases b with
  | true => exact w_itT (h1 rfl)
  | false => exact w_itF (h2 rfl)
end
/-! calls of built-ins, by names of our own -/
def rLen (K : PySem.W.Frag) : List V → Hp → VK → Prop := fun xs H Q => ∃ p ys, xs = [.ref p] ∧ (SqL K H p ys ∨ SqT K H p ys) ∧ Q (.int ys.length) H
theorem c_len {X : Cx} : CallR X (.builtin "len") (rLen X.K) := call_len_seq
theorem w_lenL {K : PySem.W.Frag} {H : Hp} {Q : VK} {p : Addr} {xs : List V} (h : SqL K H p xs) (q : Q (.int (xs.length : Int)) H) : rLen K [.ref p] H Q := ⟨p, xs, rfl, .inl h, q⟩
theorem w_lenT {K : PySem.W.Frag} {H : Hp} {Q : VK} {p : Addr} {xs : List V} (h : SqT K H p xs) (q : Q (.int (xs.length : Int)) H) : rLen K [.ref p] H Q := ⟨p, xs, rfl, .inr h, q⟩
def rAbs : List V → Hp → VK → Prop := fun xs H Q => ∃ i, xs = [.int i] ∧ Q (.int (if i < 0 then -i else i)) H
theorem c_abs {X : Cx} : CallR X (.builtin "abs") rAbs := call_abs
theorem w_abs {H : Hp} {Q : VK} {i : Int} (q : Q (.int (if i < 0 then -i else i)) H) : rAbs [.int i] H Q := ⟨i, rfl, q⟩
def rMax2 : List V → Hp → VK → Prop := fun xs H Q => ∃ i j, xs = [.int i, .int j] ∧ Q (.int (if j > i then j else i)) H
def rMin2 : List V → Hp → VK → Prop := fun xs H Q => ∃ i j, xs = [.int i, .int j] ∧ Q (.int (if j < i then j else i)) H
theorem c_max2 {X : Cx} (hc : X.calm = true) : CallR X (.builtin "max") rMax2 := call_max2 hc
theorem c_min2 {X : Cx} (hc : X.calm = true) : CallR X (.builtin "min") rMin2 := call_min2 hc
theorem w_max2 {H : Hp} {Q : VK} {i j : Int} (q : Q (.int (if j > i then j else i)) H) : rMax2 [.int i, .int j] H Q := ⟨i, j, rfl, q⟩
theorem w_min2 {H : Hp} {Q : VK} {i j : Int} (q : Q (.int (if j < i then j else i)) H) : rMin2 [.int i, .int j] H Q := ⟨i, j, rfl, q⟩
def rListOf (K : PySem.W.Frag) : List V → Hp → VK → Prop := fun xs H Q => ∃ p ys, xs = [.ref p] ∧ (SqL K H p ys ∨ SqT K H p ys) ∧ ∀ l, H l = none → Q (.ref l) (upd H l (.lst ys))
theorem c_list {X : Cx} : CallR X (.type "list") (rListOf X.K) := call_list_of
theorem w_listL {K : PySem.W.Frag} {H : Hp} {Q : VK} {p : Addr} {xs : List V} (h : SqL K H p xs) (q : ∀ l H', H l = none → Same H H' → H' l = some (.lst xs) → Q (.ref l) H') : rListOf K [.ref p] H Q := ⟨p, xs, rfl, .inl h, fun l hl => q l _ hl (same_upd hl) upd_same⟩
theorem w_listT {K : PySem.W.Frag} {H : Hp} {Q : VK} {p : Addr} {xs : List V} (h : SqT K H p xs) (q : ∀ l H', H l = none → Same H H' → H' l = some (.lst xs) → Q (.ref l) H') : rListOf K [.ref p] H Q := ⟨p, xs, rfl, .inr h, fun l hl => q l _ hl (same_upd hl) upd_same⟩
/-- a product of two ints of any size that the model allows -/
theorem op_mulI {X : Cx} : OpR X (binaryOp .Mult) (rI IntMulOk fun i j => .int (i * j)) := opI fun _ _ _ _ _ _ _ hc q => mul_int q hc
/-- isinstance, the answer told -/
theorem w_isi {K : PySem.W.Frag} {H : Hp} {Q : VK} {x : V} {t : Value} {n : String} {b : Bool} (ty : TyX K H x t) (e : PySem.W.kitOne K t (.type n) = some b) (q : Q (.bl b) H) : rIsi K [x, .ty n] H Q := ⟨x, .ty n, t, _, b, rfl, .ty n, ty, e, q⟩
theorem kit_ii (K : PySem.W.Frag) : PySem.W.kitOne K (.type "int") (.type "int") = some true := kit_ty (by decide +kernel)
theorem kit_ib (K : PySem.W.Frag) : PySem.W.kitOne K (.type "int") (.type "bool") = some false := kit_ty (by decide +kernel)
theorem kit_bi (K : PySem.W.Frag) : PySem.W.kitOne K (.type "bool") (.type "int") = some true := kit_ty (by decide +kernel)
theorem kit_bb (K : PySem.W.Frag) : PySem.W.kitOne K (.type "bool") (.type "bool") = some true := kit_ty (by decide +kernel)
theorem kit_ll (K : PySem.W.Frag) : PySem.W.kitOne K (.type "list") (.type "list") = some true := kit_ty (by decide +kernel)
theorem kit_tt (K : PySem.W.Frag) : PySem.W.kitOne K (.type "tuple") (.type "tuple") = some true := kit_ty (by decide +kernel)
theorem kit_ss (K : PySem.W.Frag) : PySem.W.kitOne K (.type "str") (.type "str") = some true := kit_ty (by decide +kernel)
theorem w_isiT {K : PySem.W.Frag} {H : Hp} {Q : VK} {p : Addr} {xs : List V} (e : H p = some (.tup xs)) (q : Q (.bl true) H) : rIsi K [.ref p, .ty "tuple"] H Q := w_isi (TyX.base (TyOf.tup e)) (kit_tt K) q
theorem w_isiL {K : PySem.W.Frag} {H : Hp} {Q : VK} {p : Addr} {xs : List V} (e : H p = some (.lst xs)) (q : Q (.bl true) H) : rIsi K [.ref p, .ty "list"] H Q := w_isi (TyX.base (TyOf.lst e)) (kit_ll K) q
theorem kit_tl (K : PySem.W.Frag) : PySem.W.kitOne K (.type "tuple") (.type "list") = some false := kit_ty (by decide +kernel)
theorem kit_lt (K : PySem.W.Frag) : PySem.W.kitOne K (.type "list") (.type "tuple") = some false := kit_ty (by decide +kernel)
/-! slices and sums of lists -/
section
variable {K : PySem.W.Frag} {σ : L2.St} {H : Hp} {Q : VK} {te : TE} {tl th : TO} {QO : Option Int → Hp → Prop}
theorem w_tsl {f : V → Option Int → Option Int → Hp → VK → Prop} (h : te σ H fun x H1 => tl σ H1 fun l H2 => th σ H2 fun u H3 => f x l u H3 Q) : tSl f te tl th σ H Q := h
theorem w_tnp (h : QO none H) : tNoPart σ H QO := h
theorem w_tpt (h : te σ H fun x H1 => ∃ i, x = .int i ∧ QO (some i) H1) : tPart te σ H QO := h
theorem w_pt {i : Int} {P : Int → Prop} (h : P i) : ∃ j, V.int i = .int j ∧ P j := ⟨i, rfl, h⟩
theorem w_sl {p : Addr} {xs : List V} {lo hi : Option Int} (h : SqL K H p xs) (q : ∀ l H', H l = none → Same H H' → H' l = some (.lst (cutV xs lo hi)) → Q (.ref l) H') : rSlL K (.ref p) lo hi H Q :=
  ⟨p, xs, rfl, h, fun l hl => q l _ hl (same_upd hl) upd_same⟩
theorem w_cat {p b : Addr} {xs ys : List V} (h1 : H p = some (.lst xs)) (h2 : H b = some (.lst ys)) (hz : xs.length + ys.length ≤ 16000000) (q : ∀ l H', H l = none → Same H H' → H' l = some (.lst (xs ++ ys)) → Q (.ref l) H') : rCat (.ref p) (.ref b) H Q :=
  ⟨p, b, xs, ys, rfl, rfl, h1, h2, Nat.le_trans hz (by rw [sizeLine_eq]; decide), fun l hl => q l _ hl (same_upd hl) upd_same⟩
end
/-! heaps that grow -/
theorem same_at {H H' : Hp} {b : Addr} {o : HO} (s : Same H H') (h : H b = some o) : H' b = some o := s b o h
theorem same_tup {K : PySem.W.Frag} {H H' : Hp} {a : Addr} {xs : List V} (e : Same H H') (h : SqT K H a xs) : SqT K H' a xs := by
  rcases h with (h | ⟨o, h⟩) | h
  · exact .inl (.inl (e _ _ h))
  · exact .inl (.inr ⟨o, e _ _ h⟩)
  · exact .inr h
theorem p2pos (k : Nat) : (0 : Int) < 2 ^ k := Int.pow_pos (by decide)
/-! loops -/
section
variable {K : PySem.W.Frag} {D : Ends} {σ : L2.St} {H : Hp} {Q : VK} {ta te tl : TE} {t : TS} {g : TG} {s : TA} {wi : TI} {tt : TT} {vs : List Nat}
def ForB (J : It) (g : TG) (t : TS) (D : Ends) (σ : L2.St) (H : Hp) : Prop := ∃ W : Nat → Nat → L2.St → Hp → Prop, (∃ m, W 0 m σ H) ∧ ∀ i m σ H, W i m σ H →
  (J.stop i H ∧ D.nx σ H) ∨ (J.go i H ∧ ∃ N : L2.St → Hp → Prop, (∀ σ' H', N σ' H' → ∃ m', m' < m ∧ W (i + 1) m' σ' H') ∧ ∀ x H', J.yld i H x H' → g x σ H' fun σ2 H2 => t { D with nx := N, ct := N, bk := D.nx } σ2 H2)
theorem w_for (h : wi σ H fun J H1 => ForB J g t D σ H1) : tFor wi g t D σ H := h
def LcB (J : It) (g : TG) (tt : TT) (te : TE) (vs : List Nat) (σ : L2.St) (Q : VK) (H1 : Hp) : Prop := ∀ D, H1 D = none → ∃ W : Nat → Nat → Hp → Prop, (∃ m, W 0 m (upd H1 D (.lst []))) ∧ ∀ i m H, W i m H →
  (J.stop i H ∧ Q (.ref D) H) ∨ (J.go i H ∧ ∃ Nx : Hp → Prop, (∀ H', Nx H' → ∃ m', m' < m ∧ W (i + 1) m' H') ∧ ∀ x H', J.yld i H x H' → g x (wipe σ vs) H' fun σ2 H2 => wipe σ2 vs = wipe σ vs ∧ tt σ2 H2 fun b H3 =>
    if b = true then te σ2 H3 fun y H4 => ∃ acc, H4 D = some (.lst acc) ∧ acc.length < sizeLine ∧ Nx (upd H4 D (.lst (acc ++ [y]))) else Nx H3)
theorem w_lc (h : wi σ H fun J H1 => LcB J g tt te vs σ Q H1) : tLc wi g tt te vs σ H Q := h
def IL1 (K : PySem.W.Frag) (R : It → Hp → Prop) (x : V) (H1 : Hp) : Prop := ∃ a, x = .ref a ∧ (∃ xs, SqL K H1 a xs) ∧ R (Itl K a) H1
def IT1 (K : PySem.W.Frag) (R : It → Hp → Prop) (x : V) (H1 : Hp) : Prop := ∃ a, x = .ref a ∧ (∃ xs, SqT K H1 a xs) ∧ R (Itt K a) H1
def IR1 (R : It → Hp → Prop) (vs : List V) (H1 : Hp) : Prop := ∃ j : Int, vs = [.int j] ∧ -(2 ^ 62) ≤ j ∧ j < 2 ^ 62 ∧ R (Itr 0 j.toNat) H1
def IR2 (R : It → Hp → Prop) (vs : List V) (H1 : Hp) : Prop := ∃ i j : Int, vs = [.int i, .int j] ∧ (-(2 ^ 62) ≤ i ∧ i < 2 ^ 62 ∧ -(2 ^ 62) ≤ j ∧ j < 2 ^ 62) ∧ R (Itr i (j - i).toNat) H1
variable {R : It → Hp → Prop}
theorem w_iL (h : tl σ H fun x H1 => IL1 K R x H1) : iList K tl σ H R := h
theorem w_iT (h : tl σ H fun x H1 => IT1 K R x H1) : iTup K tl σ H R := h
theorem w_iR1 (h : s σ H fun x H1 => IR1 R x H1) : iRng1 s σ H R := h
theorem w_iR2 (h : s σ H fun x H1 => IR2 R x H1) : iRng2 s σ H R := h
theorem w_IL1 {a : Addr} {xs : List V} (h : SqL K H a xs) (q : R (Itl K a) H) : IL1 K R (.ref a) H := ⟨a, rfl, ⟨xs, h⟩, q⟩
theorem w_IT1 {a : Addr} {xs : List V} (h : SqT K H a xs) (q : R (Itt K a) H) : IT1 K R (.ref a) H := ⟨a, rfl, ⟨xs, h⟩, q⟩
theorem w_IR1 {j : Int} (h : -1000000 ≤ j ∧ j ≤ 1000000) (q : R (Itr 0 j.toNat) H) : IR1 R [.int j] H := ⟨j, rfl, by omega, by omega, q⟩
theorem w_IR2 {i j : Int} (h : -1000000 ≤ i ∧ i ≤ 1000000 ∧ -1000000 ≤ j ∧ j ≤ 1000000) (q : R (Itr i (j - i).toNat) H) : IR2 R [.int i, .int j] H := ⟨i, j, rfl, by omega, q⟩
/-- for x in a list that stands: Pv by the turn, the slots, the heap -/
theorem for_l {a : Addr} {j : Nat} (xs : List V) (Pv : Nat → L2.St → Hp → Prop) (h0 : Pv 0 σ H) (hl : ∀ i σ H, i ≤ xs.length → Pv i σ H → SqL K H a xs)
    (hs : ∀ i x σ' H', xs[i]? = some x → Pv i σ' H' → t { D with nx := Pv (i + 1), ct := Pv (i + 1), bk := D.nx } (σ'.set j (some x)) H') (hd : ∀ σ' H', Pv xs.length σ' H' → D.nx σ' H') : ForB (Itl K a) (gName j) t D σ H :=
  for_list Pv h0 hl hs hd
theorem for_t {a : Addr} {j : Nat} (xs : List V) (Pv : Nat → L2.St → Hp → Prop) (h0 : Pv 0 σ H) (hl : ∀ i σ H, i ≤ xs.length → Pv i σ H → SqT K H a xs)
    (hs : ∀ i x σ' H', xs[i]? = some x → Pv i σ' H' → t { D with nx := Pv (i + 1), ct := Pv (i + 1), bk := D.nx } (σ'.set j (some x)) H') (hd : ∀ σ' H', Pv xs.length σ' H' → D.nx σ' H') : ForB (Itt K a) (gName j) t D σ H :=
  for_tup Pv h0 hl hs hd
theorem for_r {n j : Nat} (Pv : Nat → L2.St → Hp → Prop) (h0 : Pv 0 σ H)
    (hs : ∀ (i : Nat) σ' H', i < n → Pv i σ' H' → t { D with nx := Pv (i + 1), ct := Pv (i + 1), bk := D.nx } (σ'.set j (some (.int (i : Int)))) H') (hd : ∀ σ' H', Pv n σ' H' → D.nx σ' H') : ForB (Itr 0 n) (gName j) t D σ H :=
  for_range Pv h0 (fun i σ' H' hi p => by
    show t _ (σ'.set j (some (.int (0 + (i : Int))))) H'
    rw [Int.zero_add]
    exact hs i σ' H' hi p) hd
theorem for_r2 {lo : Int} {n j : Nat} (Pv : Nat → L2.St → Hp → Prop) (h0 : Pv 0 σ H)
    (hs : ∀ (i : Nat) σ' H', i < n → Pv i σ' H' → t { D with nx := Pv (i + 1), ct := Pv (i + 1), bk := D.nx } (σ'.set j (some (.int (lo + (i : Int))))) H') (hd : ∀ σ' H', Pv n σ' H' → D.nx σ' H') : ForB (Itr lo n) (gName j) t D σ H :=
  for_range Pv h0 hs hd
/-- a comprehension over range(n) whose elements leave the heap -/
theorem lc_r {n j : Nat} (f : Nat → V) (hn : n < 1000000) (hw : ∀ x, wipe ((wipe σ vs).set j (some x)) vs = wipe σ vs)
    (he : ∀ (i : Nat) H' (Q' : VK), i < n → Same H H' → Q' (f i) H' → te ((wipe σ vs).set j (some (.int (i : Int)))) H' Q')
    (q : ∀ p H', H p = none → Same H H' → H' p = some (.lst ((List.range n).map f)) → Q (.ref p) H') : LcB (Itr 0 n) (gName j) tYes te vs σ Q H := fun p hp =>
  lc_range (lo := 0) (n := n) (fun i H' => H' = upd H p (.lst ((List.range i).map f))) rfl (fun i H' hi e => by
    subst e
    have e0 : V.int (0 + (i : Int)) = V.int (i : Int) := by rw [Int.zero_add]
    show wipe ((wipe σ vs).set j (some (V.int (0 + (i : Int))))) vs = wipe σ vs ∧ te ((wipe σ vs).set j (some (V.int (0 + (i : Int))))) (upd H p (.lst ((List.range i).map f)))
      (fun y H4 => ∃ acc, H4 p = some (.lst acc) ∧ acc.length < sizeLine ∧ upd H4 p (.lst (acc ++ [y])) = upd H p (.lst ((List.range (i + 1)).map f)))
    rw [e0]
    refine ⟨hw _, he i _ _ hi (same_upd hp) ⟨_, upd_same, ?_, ?_⟩⟩
    · rw [List.length_map, List.length_range]
      exact Nat.lt_of_lt_of_le (show i < 16777216 by omega) (by rw [sizeLine_eq]; exact Nat.le_refl _)
    · rw [upd_upd, List.range_succ, List.map_append]
      rfl) fun H' e => by
    subst e
    exact q p _ hp (same_upd hp) upd_same
end
/-! lists of ints -/
theorem get_map {α : Type} {xs : List α} {f : α → V} {i : Nat} {x : V} (h : (xs.map f)[i]? = some x) : ∃ y, xs[i]? = some y ∧ x = f y := by
  rw [List.getElem?_map] at h
  cases e : xs[i]? with
  | none => rw [e] at h; cases h
  | some y => rw [e] at h; exact ⟨y, rfl, (Option.some.inj h).symm⟩
theorem cut_upto (xs : List V) (n : Nat) : cutV xs none (some (n : Int)) = xs.take n := by
  unfold cutV
  rw [HT.sIx_none, HT.sIx_nat, List.drop_zero, Nat.sub_zero]
  rcases Nat.le_total n xs.length with h | h
  · rw [Nat.min_eq_left h]
  · rw [Nat.min_eq_right h, List.take_of_length_le (Nat.le_refl _), List.take_of_length_le h]
theorem cut_from (xs : List V) (n : Nat) (h : n ≤ xs.length) : cutV xs (some (n : Int)) none = xs.drop n := by
  unfold cutV
  rw [HT.sIx_none, HT.sIx_nat, Nat.min_eq_left h]
  exact List.take_of_length_le (by rw [List.length_drop]; exact Nat.le_refl _)
/-- the cells of a law: at most 63 of the script, and nought behind -/
def cells (ns : List Int) : List Int := ns.take 63 ++ [0]
theorem cells_eq (ns : List Int) : cutV (ns.map V.int) none (some (63 : Int)) ++ [V.int 0] = (cells ns).map V.int := by
  rw [show (63 : Int) = ((63 : Nat) : Int) from rfl, cut_upto, cells, List.map_append, List.map_take]
  rfl
theorem cells_len (ns : List Int) : (cells ns).length ≤ 64 ∧ 1 ≤ (cells ns).length := by
  unfold cells
  rw [List.length_append, List.length_take, List.length_singleton]
  omega
theorem cutV_le (xs : List V) (lo hi : Option Int) {n : Nat} (h : xs.length ≤ n) : (cutV xs lo hi).length ≤ n := Nat.le_trans (cutV_length xs lo hi) h
/-! == of data -/
theorem w_neD {K : PySem.W.Frag} {H : Hp} {Q : VK} {x y : V} {d e : PyData} (hx : Dp K H x d) (hy : Dp K H y e) (sd : SeqAt.shaped d = true) (se : SeqAt.shaped e = true) (q : Q (.bl (!PyData.eqv d e)) H) : rNeD K x y H Q := ⟨d, e, hx, hy, sd, se, q⟩
theorem w_eqD {K : PySem.W.Frag} {H : Hp} {Q : VK} {x y : V} {d e : PyData} (hx : Dp K H x d) (hy : Dp K H y e) (sd : SeqAt.shaped d = true) (se : SeqAt.shaped e = true) (q : Q (.bl (PyData.eqv d e)) H) : rEqD K x y H Q := ⟨d, e, hx, hy, sd, se, q⟩
theorem w_neSame {K : PySem.W.Frag} {H : Hp} {Q : VK} {x y : V} (d : PyData) (hx : Dp K H x d) (hy : Dp K H y d) (sd : SeqAt.shaped d = true) (q : Q (.bl false) H) : rNeD K x y H Q :=
  ⟨d, d, hx, hy, sd, sd, by rw [SeqAt.eqv_refl d (SeqAt.canLay_of_shaped sd)]; exact q⟩
theorem w_eqSame {K : PySem.W.Frag} {H : Hp} {Q : VK} {x y : V} (d : PyData) (hx : Dp K H x d) (hy : Dp K H y d) (sd : SeqAt.shaped d = true) (q : Q (.bl true) H) : rEqD K x y H Q :=
  ⟨d, d, hx, hy, sd, sd, by rw [SeqAt.eqv_refl d (SeqAt.canLay_of_shaped sd)]; exact q⟩
theorem dp_ints {K : PySem.W.Frag} {H : Hp} : ∀ ns : List Int, DpAll K H (ns.map V.int) (ns.map PyData.int)
  | [] => .nil
  | n :: r => .cons (.int n) (dp_ints r)
theorem lay_ints : ∀ ns : List Int, PyData.canLayAll0 (ns.map PyData.int) = true
  | [] => rfl
  | n :: r => by
    show (PyData.canLay0 (.int n) && PyData.canLayAll0 (r.map PyData.int)) = true
    rw [lay_ints r]
    rfl
/-! lists that change -/
section
variable {K : PySem.W.Frag} {D : Ends} {σ : L2.St} {H H1 : Hp} {Q : VK} {to : TE} {t : TA} {b : TS}
/-- what H does not know may change behind it -/
theorem same_mut {o : Addr} {u : HO} (s : Same H H1) (n : H o = none) : Same H (upd H1 o u) := fun c x e => by
  rw [upd_ne (ne_of_none e n)]
  exact s c x e
def BM1 (K : PySem.W.Frag) (T : String) (f : V → List V → Hp → VK → Prop) (t : TA) (σ : L2.St) (Q : VK) (x : V) (H1 : Hp) : Prop := tyV K T x H1 ∧ t σ H1 fun xs H2 => f x xs H2 Q
def BM0 (K : PySem.W.Frag) (T : String) (f : V → List V → Hp → VK → Prop) (Q : VK) (x : V) (H1 : Hp) : Prop := tyV K T x H1 ∧ f x [] H1 Q
theorem w_bm {T : String} {f : V → List V → Hp → VK → Prop} (h : to σ H fun x H1 => BM1 K T f t σ Q x H1) : tBM K T f to t σ H Q := h
theorem w_bm0 {T : String} {f : V → List V → Hp → VK → Prop} (h : to σ H fun x H1 => BM0 K T f Q x H1) : tBM0 K T f to σ H Q := h
theorem w_BML {f : V → List V → Hp → VK → Prop} {p : Addr} {xs : List V} (e : H p = some (.lst xs)) (q : t σ H fun vs H2 => f (.ref p) vs H2 Q) : BM1 K "list" f t σ Q (.ref p) H := ⟨.inl ⟨rfl, xs, SqL.of e⟩, q⟩
theorem w_BM0L {f : V → List V → Hp → VK → Prop} {p : Addr} {xs : List V} (e : H p = some (.lst xs)) (q : f (.ref p) [] H Q) : BM0 K "list" f Q (.ref p) H := ⟨.inl ⟨rfl, xs, SqL.of e⟩, q⟩
theorem w_append {p : Addr} {xs : List V} {y : V} (e : H p = some (.lst xs)) (hz : xs.length ≤ 1000000) (q : Q .non (upd H p (.lst (xs ++ [y])))) : rAppend (.ref p) [y] H Q :=
  ⟨p, xs, y, rfl, rfl, e, Nat.lt_of_le_of_lt hz (by rw [sizeLine_eq]; decide), q⟩
/-- for k, x in enumerate(a list that stands) -/
def IE1 (K : PySem.W.Frag) (R : It → Hp → Prop) (vs : List V) (H1 : Hp) : Prop := ∃ a xs, vs = [.ref a] ∧ SqL K H1 a xs ∧ R (Ite K a) H1
theorem w_iE {s : TA} {R : It → Hp → Prop} (h : s σ H fun x H1 => IE1 K R x H1) : iEnum K s σ H R := h
theorem w_IE1 {a : Addr} {xs : List V} {R : It → Hp → Prop} (h : SqL K H a xs) (q : R (Ite K a) H) : IE1 K R [.ref a] H := ⟨a, xs, rfl, h, q⟩
theorem for_e {a : Addr} {j k : Nat} (xs : List V) (Pv : Nat → L2.St → Hp → Prop) (h0 : Pv 0 σ H) (hl : ∀ n σ H, n ≤ xs.length → Pv n σ H → SqL K H a xs)
    (hs : ∀ (n : Nat) x σ' H' H'', xs[n]? = some x → Pv n σ' H' → Same H' H'' → b { D with nx := Pv (n + 1), ct := Pv (n + 1), bk := D.nx } ((σ'.set j (some (.int (n : Int)))).set k (some x)) H'') (hd : ∀ σ' H', Pv xs.length σ' H' → D.nx σ' H') :
    ForB (Ite K a) (gTup K 2 (gCons (gName j) (gCons (gName k) gNil))) b D σ H := by
  refine ⟨fun i m σ H => m = xs.length - i ∧ i ≤ xs.length ∧ Pv i σ H, ⟨xs.length, by simp, Nat.zero_le _, h0⟩, ?_⟩
  rintro i m σ H ⟨rfl, hi, p⟩
  have q := hl i σ H hi p
  by_cases hlt : i < xs.length
  · refine .inr ⟨⟨xs, xs[i], q, by simp [hlt]⟩, Pv (i + 1), fun σ' H' p' => ⟨xs.length - (i + 1), by omega, rfl, hlt, p'⟩, fun x H' y => ?_⟩
    obtain ⟨T, y, rfl, nT, rfl, hy⟩ := y
    refine ⟨T, _, rfl, SqT.of upd_same, rfl, _, _, rfl, _, _, rfl, rfl, ?_⟩
    exact hs i y σ H _ (hy xs q) p (same_upd nT)
  · have e : i = xs.length := by omega
    subst e
    exact .inl ⟨⟨xs, q, Nat.le_refl _⟩, hd σ H p⟩
end
/-- x & 1 -/
def rBit1 : R2 := fun x y H Q => ∃ i : Int, x = .int i ∧ y = .int 1 ∧ Q (.int (i % 2)) H
theorem op_bit1 {X : Cx} : OpR X (binaryOp .BitAnd) rBit1 := by
  intro pins s σ H x y v u Q I rx ry h
  obtain ⟨i, rfl, rfl, q⟩ := h
  have e : Builtin.bitAnd i 1 = i % 2 := PySem.W.kbt_mask i 1
  rw [← e] at q
  exact op_and pins s σ H _ _ v u Q I rx ry ⟨_, _, rfl, rfl, q⟩
theorem w_bit1 {H : Hp} {Q : VK} {i : Int} (q : Q (.int (i % 2)) H) : rBit1 (.int i) (.int 1) H Q := ⟨i, rfl, rfl, q⟩
/-- x >> k, k a place -/
def rShrN : R2 := fun x y H Q => ∃ (i : Int) (k : Nat), x = .int i ∧ y = .int (k : Int) ∧ Q (.int (i / 2 ^ k)) H
theorem op_shrK {X : Cx} : OpR X (binaryOp .RShift) rShrN := op_shrN
theorem w_shrN {H : Hp} {Q : VK} {i : Int} {k : Nat} (q : Q (.int (i / 2 ^ k)) H) : rShrN (.int i) (.int (k : Int)) H Q := ⟨i, k, rfl, rfl, q⟩
/-- x << k, x small, k a place -/
def rShlN : R2 := fun x y H Q => ∃ (i : Int) (k : Nat), x = .int i ∧ y = .int (k : Int) ∧ (-100 ≤ i ∧ i ≤ 100 ∧ k ≤ 1000000) ∧ Q (.int (i * 2 ^ k)) H
theorem op_shlK {X : Cx} : OpR X (binaryOp .LShift) rShlN := by
  intro pins s σ H x y v u Q I rx ry h
  obtain ⟨i, k, rfl, rfl, ⟨h1, h2, h3⟩, q⟩ := h
  refine op_shl pins s σ H _ _ v u Q I rx ry ⟨_, _, rfl, rfl, ⟨by omega, by omega, Nat.lt_of_le_of_lt (show i.natAbs ≤ 100 by omega) (by decide)⟩, ?_⟩
  show Q (.int (i * 2 ^ (k : Int).toNat)) H
  rw [Int.toNat_natCast]
  exact q
theorem w_shlN {H : Hp} {Q : VK} {i : Int} {k : Nat} (h : -100 ≤ i ∧ i ≤ 100 ∧ k ≤ 1000000) (q : Q (.int (i * 2 ^ k)) H) : rShlN (.int i) (.int (k : Int)) H Q := ⟨i, k, rfl, rfl, h, q⟩
theorem bits_of_int {i : Int} {n : Nat} (h : i.natAbs < 2 ^ n) : Builtin.Int.intBits i ≤ n + 1 := by
  have b : Builtin.Int.intBits i ≤ i.natAbs.log2 + 1 := by
    unfold Builtin.Int.intBits
    split <;> omega
  rcases Nat.eq_zero_or_pos n with h0 | h0
  · subst h0
    have e : i.natAbs = 0 := by omega
    rw [e] at b
    exact b
  · have := PySem.Flt.log2_lt_of h0 h
    omega
theorem mul_ok {i j : Int} {n : Nat} (hi : Builtin.Int.intBits i ≤ 1048576) (hj : j.natAbs < 2 ^ n) (hn : n ≤ 1000000) : IntMulOk i j :=
  CMulX.ok (show (Builtin.Int.intBits i : Int) + (Builtin.Int.intBits j : Int) ≤ 134217728 by have := bits_of_int hj; omega)
theorem mul_sm {i j : Int} (h : -1000000000000 ≤ i ∧ i ≤ 1000000000000) : IntMulOk i j := .of_left (intBits_le_64 (by omega) (by omega))
theorem mul_sm2 {i j : Int} (h : -1000000000000 ≤ j ∧ j ≤ 1000000000000) : IntMulOk i j := .of_right (intBits_le_64 (by omega) (by omega))
theorem depth_ints : ∀ ns : List Int, PyData.depthAll (ns.map PyData.int) ≤ 1
  | [] => Nat.zero_le 1
  | n :: r => by
    have := depth_ints r
    show max (PyData.depth (.int n)) (PyData.depthAll (r.map PyData.int)) ≤ 1
    exact Nat.max_le.mpr ⟨Nat.zero_le 1, this⟩
theorem shaped_ints (ns : List Int) : SeqAt.shaped (.list (ns.map PyData.int)) = true := by
  unfold SeqAt.shaped
  rw [show PyData.canLay0 (.list (ns.map PyData.int)) = true from lay_ints ns, Bool.true_and]
  have h := depth_ints ns
  exact decide_eq_true (show PyData.depthAll (ns.map PyData.int) + 1 ≤ 64 by omega)
/-! targets of several names -/
section
variable {K : PySem.W.Frag} {σ : L2.St} {H : Hp} {t : TG} {u tt : TGs} {QS : L2.St → Hp → Prop}
theorem w_gTup {n : Nat} {a : Addr} {xs : List V} (h : SqT K H a xs) (e : xs.length = n) (q : tt xs σ H QS) : gTup K n tt (.ref a) σ H QS := ⟨a, xs, rfl, h, e, q⟩
theorem w_gCons {v : V} {r : List V} (q : t v σ H fun σ' H' => u r σ' H' QS) : gCons t u (v :: r) σ H QS := ⟨v, r, rfl, q⟩
theorem w_gNil (q : QS σ H) : gNil [] σ H QS := ⟨rfl, q⟩
theorem w_gName {v : V} {i : Nat} (q : QS (σ.set i (some v)) H) : gName i v σ H QS := q
end
/-- how many bits a number has -/
theorem ib_le {x : Int} (h : 0 ≤ x) (n : Nat) : Builtin.Int.intBits x ≤ n ↔ x < 2 ^ n := by
  obtain ⟨k, rfl⟩ := Int.eq_ofNat_of_zero_le h
  have e : (k : Int) < 2 ^ n ↔ k < 2 ^ n := by
    rw [show ((2 : Int) ^ n) = ((2 ^ n : Nat) : Int) by rw [Int.natCast_pow]; rfl]
    exact Int.ofNat_lt
  rw [e]
  by_cases h0 : k = 0
  · subst h0
    exact ⟨fun _ => Nat.pos_of_ne_zero (by intro z; exact absurd z (Nat.ne_of_gt (Nat.pow_pos (by decide)))), fun _ => Nat.zero_le _⟩
  · have hb : Builtin.Int.intBits (k : Int) = k.log2 + 1 := by
      unfold Builtin.Int.intBits
      rw [if_neg (by simpa using h0)]
      rfl
    rw [hb]
    exact (Nat.log2_lt h0)
theorem mul_cc {i j : Int} (hi : Builtin.Int.intBits i ≤ 1048576) (hj : Builtin.Int.intBits j ≤ 1048576) : IntMulOk i j :=
  CMulX.ok (show (Builtin.Int.intBits i : Int) + (Builtin.Int.intBits j : Int) ≤ 134217728 by omega)
theorem abs_pow (n : Nat) : ((1 : Int) * 2 ^ n).natAbs = 2 ^ n := by
  rw [Int.one_mul, Int.natAbs_pow]
  rfl
/-! cells of a script by their places -/
theorem get_int {ns : List Int} {i : Nat} (hi : i < ns.length) : atI (ns.map V.int) (i : Int) = some (.int ns[i]) := atI_nat (by rw [List.getElem?_map, List.getElem?_eq_getElem hi]; rfl)
theorem atI_lastD {bs : List Int} (h : bs ≠ []) : atI (bs.map V.int) (-1) = some (.int (bs.getLastD 0)) := by
  obtain ⟨r, x, rfl⟩ : ∃ r x, bs = r ++ [x] := ⟨bs.dropLast, bs.getLast h, (List.dropLast_concat_getLast h).symm⟩
  rw [List.map_append]
  have e : (r ++ [x]).getLastD 0 = x := by simp
  rw [e]
  exact atI_last _ _
theorem atI_prev {xs : List Int} {k : Nat} (hk : k < xs.length) : ∃ c, atI (xs.map V.int) ((k : Int) - 1) = some (.int c) ∧ c ∈ xs := by
  cases k with
  | zero =>
    have hne : xs ≠ [] := fun z => by
      rw [z] at hk
      exact absurd hk (by decide)
    refine ⟨xs.getLastD 0, atI_lastD hne, ?_⟩
    obtain ⟨r, x, rfl⟩ : ∃ r x, xs = r ++ [x] := ⟨xs.dropLast, xs.getLast hne, (List.dropLast_concat_getLast hne).symm⟩
    simp
  | succ j =>
    have hj : j < xs.length := by omega
    refine ⟨xs[j], ?_, List.getElem_mem hj⟩
    have e : ((j + 1 : Nat) : Int) - 1 = (j : Int) := by omega
    rw [e]
    exact get_int hj
theorem cells_bits {ns : List Int} (h : ∀ z ∈ ns, Builtin.Int.intBits z ≤ 1048576) : ∀ z ∈ cells ns, Builtin.Int.intBits z ≤ 1048576 := by
  intro z hz
  rcases List.mem_append.mp hz with q | q
  · exact h z (List.mem_of_mem_take q)
  · have e : z = 0 := List.mem_singleton.mp q
    rw [e]
    decide
/-! texts compared -/
theorem w_itS1 {x y : Str} {A B : Prop} (e : decide (x = y) = true) (h : A) : if decide (V.str x = V.str y) = true then A else B := by
  rw [of_decide_eq_true e, decide_eq_true rfl]
  exact w_itT h
theorem w_itS0 {x y : Str} {A B : Prop} (e : decide (x = y) = false) (h : B) : if decide (V.str x = V.str y) = true then A else B := by
  rw [decide_eq_false (fun z => of_decide_eq_false e (V.str.inj z))]
  exact w_itF h
theorem w_itN1 {x y : Str} {A B : Prop} (e : decide (x = y) = true) (h : B) : if (!decide (V.str x = V.str y)) = true then A else B := by
  rw [of_decide_eq_true e, decide_eq_true rfl]
  exact w_itF h
theorem w_itN0 {x y : Str} {A B : Prop} (e : decide (x = y) = false) (h : A) : if (!decide (V.str x = V.str y)) = true then A else B := by
  rw [decide_eq_false (fun z => of_decide_eq_false e (V.str.inj z))]
  exact w_itT h
theorem w_itS {x y : Str} {A B : Prop} (h1 : x = y → A) (h2 : x ≠ y → B) : if decide (V.str x = V.str y) = true then A else B := by
  by_cases e : x = y
  · exact w_itS1 (decide_eq_true e) (h1 e)
  · exact w_itS0 (decide_eq_false e) (h2 e)
theorem w_itSN {x y : Str} {A B : Prop} (h1 : x ≠ y → A) (h2 : x = y → B) : if (!decide (V.str x = V.str y)) = true then A else B := by
  by_cases e : x = y
  · exact w_itN1 (decide_eq_true e) (h2 e)
  · exact w_itN0 (decide_eq_false e) (h1 e)
/-! dicts asked -/
def DG1 (x y : V) (H2 : Hp) (Q : VK) : Prop := ∃ a v, x = .ref a ∧ DGet H2 a y (some v) ∧ Q v H2
theorem w_dget {td ty : TE} {σ : L2.St} {H : Hp} {Q : VK} (h : td σ H fun x H1 => ty σ H1 fun y H2 => DG1 x y H2 Q) : tDGet td ty σ H Q := h
theorem w_DG1 {a : Addr} {kvs : List (Key × V)} {n : Str} {v : V} {H : Hp} {Q : VK} (e : H a = some (.dK kvs)) (g : valV kvs (Sum.inr n) = some v) (q : Q v H) : DG1 (.ref a) (.str n) H Q :=
  ⟨a, v, rfl, by rw [← g]; exact DGet.k (k := Sum.inr n) e, q⟩
/-! lists in step -/
def A2 {α β : Type} (R : α → β → Prop) (xs : List α) (ys : List β) : Prop := xs.length = ys.length ∧ ∀ (i : Nat) x y, xs[i]? = some x → ys[i]? = some y → R x y
theorem A2.nil {α β : Type} {R : α → β → Prop} : A2 R [] [] := ⟨rfl, fun i x y h => by cases h⟩
theorem A2.snoc {α β : Type} {R : α → β → Prop} {xs : List α} {ys : List β} {x : α} {y : β} (h : A2 R xs ys) (r : R x y) : A2 R (xs ++ [x]) (ys ++ [y]) := by
  refine ⟨by rw [List.length_append, List.length_append, h.1]; rfl, fun i u v hu hv => ?_⟩
  rcases Nat.lt_trichotomy i xs.length with q | q | q
  · rw [List.getElem?_append_left q] at hu
    rw [List.getElem?_append_left (by rw [← h.1]; exact q)] at hv
    exact h.2 i u v hu hv
  · subst q
    rw [List.getElem?_append_right (Nat.le_refl _), Nat.sub_self] at hu
    rw [h.1, List.getElem?_append_right (Nat.le_refl _), Nat.sub_self] at hv
    cases hu
    cases hv
    exact r
  · rw [List.getElem?_eq_none (by rw [List.length_append]; exact q)] at hu
    cases hu
theorem A2.mono {α β : Type} {R S : α → β → Prop} {xs : List α} {ys : List β} (h : A2 R xs ys) (k : ∀ x y, R x y → S x y) : A2 S xs ys := ⟨h.1, fun i x y a b => k x y (h.2 i x y a b)⟩
theorem A2.get {α β : Type} {R : α → β → Prop} {xs : List α} {ys : List β} {i : Nat} {x : α} (h : A2 R xs ys) (e : xs[i]? = some x) : ∃ y, ys[i]? = some y ∧ R x y := by
  have hi := (List.getElem?_eq_some_iff.mp e).1
  have hj : i < ys.length := by rw [← h.1]; exact hi
  exact ⟨ys[i], List.getElem?_eq_getElem hj, h.2 i x _ e (List.getElem?_eq_getElem hj)⟩
theorem A2.get2 {α β : Type} {R : α → β → Prop} {xs : List α} {ys : List β} {i : Nat} {y : β} (h : A2 R xs ys) (e : ys[i]? = some y) : ∃ x, xs[i]? = some x ∧ R x y := by
  have hi := (List.getElem?_eq_some_iff.mp e).1
  have hj : i < xs.length := by rw [h.1]; exact hi
  exact ⟨xs[i], List.getElem?_eq_getElem hj, h.2 i _ y (List.getElem?_eq_getElem hj) e⟩
theorem mul_ok2 {i j : Int} {n : Nat} (hi : Builtin.Int.intBits i ≤ 1048576) (hj : j.natAbs < 2 ^ n) (hn : n ≤ 1000000) : IntMulOk i j := mul_ok hi hj hn
/-! the rules with the written part named (within a comprehension it must be) -/
theorem ix_tupK {X : Cx} (K : PySem.W.Frag) (e : X.K = K := by rfl) : IxR X (rIxT K) := by subst e; exact ix_tup
theorem ix_listK {X : Cx} (K : PySem.W.Frag) (e : X.K = K := by rfl) : IxR X (rIxL K) := by subst e; exact ix_list
theorem c_lenK {X : Cx} (K : PySem.W.Frag) (e : X.K = K := by rfl) : CallR X (.builtin "len") (rLen K) := by subst e; exact c_len
theorem c_listK {X : Cx} (K : PySem.W.Frag) (e : X.K = K := by rfl) : CallR X (.type "list") (rListOf K) := by subst e; exact c_list
theorem c_isiK {X : Cx} (K : PySem.W.Frag) (e : X.K = K := by rfl) : CallR X (.builtin "isinstance") (rIsi K) := by subst e; exact call_isi
/-- a comprehension over a list that stands, whose elements leave the heap -/
theorem lc_l {K : PySem.W.Frag} {σ : L2.St} {H : Hp} {Q : VK} {te : TE} {vs : List Nat} {a : Addr} {j : Nat} (xs ys : List V) (hlen : ys.length = xs.length) (hS : SqL K H a xs) (hz : xs.length ≤ 1000000) (hw : ∀ x, wipe ((wipe σ vs).set j (some x)) vs = wipe σ vs)
    (he : ∀ (i : Nat) x y H' (Q' : VK), xs[i]? = some x → ys[i]? = some y → Same H H' → Q' y H' → te ((wipe σ vs).set j (some x)) H' Q')
    (q : ∀ p H', H p = none → Same H H' → H' p = some (.lst ys) → Q (.ref p) H') : LcB (Itl K a) (gName j) tYes te vs σ Q H := fun p hp =>
  lc_list (xs := xs) (fun i H' => H' = upd H p (.lst (ys.take i))) rfl (fun i H' _ e => by
    subst e
    exact (same_upd hp).seq hS) (fun i x H' hx e => by
    subst e
    have hi := (List.getElem?_eq_some_iff.mp hx).1
    have hy : ys[i]? = some ys[i] := List.getElem?_eq_getElem (by omega)
    show wipe ((wipe σ vs).set j (some x)) vs = wipe σ vs ∧ te ((wipe σ vs).set j (some x)) (upd H p (.lst (ys.take i)))
      (fun y H4 => ∃ acc, H4 p = some (.lst acc) ∧ acc.length < sizeLine ∧ upd H4 p (.lst (acc ++ [y])) = upd H p (.lst (ys.take (i + 1))))
    refine ⟨hw _, he i x _ _ _ hx hy (same_upd hp) ⟨_, upd_same, ?_, ?_⟩⟩
    · rw [List.length_take]
      exact Nat.lt_of_lt_of_le (show min i ys.length < 16777216 by omega) (by rw [sizeLine_eq]; exact Nat.le_refl _)
    · rw [upd_upd, List.take_add_one, hy]
      rfl) fun H' e => by
    subst e
    refine q p _ hp (same_upd hp) ?_
    rw [upd_same, List.take_of_length_le (by omega)]
/-- x // (1 << k) -/
def rDivP : R2 := fun x y H Q => ∃ (i : Int) (k : Nat), x = .int i ∧ y = .int (1 * 2 ^ k) ∧ k ≤ 5000 ∧ Q (.int (i / 2 ^ k)) H
theorem op_divP {X : Cx} : OpR X (binaryOp .FloorDiv) rDivP := by
  intro pins s σ H x y v u Q I rx ry h
  obtain ⟨i, k, rfl, rfl, hk, q⟩ := h
  refine op_fdivW pins s σ H _ _ v u Q I rx ry ⟨_, _, rfl, rfl, ?_, ?_⟩
  · refine wide_div (b := k + 1) (by rw [Int.one_mul]; exact p2pos k) ?_ (Nat.succ_pos _) (by omega)
    rw [abs_pow]
    exact Nat.pow_lt_pow_right (by decide) (Nat.lt_succ_self k)
  · show Q (.int (i / (1 * 2 ^ k))) H
    rw [Int.one_mul]
    exact q
theorem w_divP {H : Hp} {Q : VK} {i : Int} {k : Nat} (h : k ≤ 5000) (q : Q (.int (i / 2 ^ k)) H) : rDivP (.int i) (.int (1 * 2 ^ k)) H Q := ⟨i, k, rfl, rfl, h, q⟩
theorem hp_upd {H : Hp} {a b : Addr} {o u : HO} (ne : b ≠ a) (h : H b = some o) : upd H a u b = some o := by rw [upd_ne ne]; exact h
theorem hp_upd2 {H : Hp} {a b : Addr} {o u : HO} (ne : a ≠ b) (h : H b = some o) : upd H a u b = some o := hp_upd ne.symm h
end Dpr

namespace Dpr
open PySem PySem.Spec PyProof.Rows L2
/-! ### rows of gates -/
inductive Bop where
  | and | or | xor
  deriving DecidableEq
inductive Row where
  | fix (b : Int) | inn (n : Str) (k : Nat) | inv (a : Nat) | bin (o : Bop) (a b : Nat) | lat (a : Nat)
  deriving DecidableEq
def bopS : Bop → Str
  | .and => "and" | .or => "or" | .xor => "xor"
def rowV : Row → List V
  | .fix b => [.str "fix", .int b]
  | .inn n k => [.str "in", .str n, .int (k : Int)]
  | .inv a => [.str "not", .int (a : Int)]
  | .bin o a b => [.str (bopS o), .int (a : Int), .int (b : Int)]
  | .lat a => [.str "latch", .int (a : Int)]
def RowAt (H : Hp) (p : Addr) (r : Row) : Prop := H p = some (.tup (rowV r))
/-- a list of rows that may be read -/
def RowsL (K : PySem.W.Frag) (H : Hp) (a : Addr) (rs : List Row) : Prop := ∃ ps : List Addr, SqL K H a (ps.map V.ref) ∧ A2 (RowAt H) ps rs
/-- one of our own, that may change -/
def RowsM (H : Hp) (a : Addr) (rs : List Row) : Prop := ∃ ps : List Addr, H a = some (.lst (ps.map V.ref)) ∧ A2 (RowAt H) ps rs
theorem RowsL.same {K : PySem.W.Frag} {H H' : Hp} {a : Addr} {rs : List Row} (s : Same H H') (h : RowsL K H a rs) : RowsL K H' a rs := by
  obtain ⟨ps, h1, h2⟩ := h
  exact ⟨ps, s.seq h1, h2.mono fun p r e => s _ _ e⟩
theorem RowsM.same {H H' : Hp} {a : Addr} {rs : List Row} (s : Same H H') (h : RowsM H a rs) : RowsM H' a rs := by
  obtain ⟨ps, h1, h2⟩ := h
  exact ⟨ps, s _ _ h1, h2.mono fun p r e => s _ _ e⟩
theorem RowsM.read {K : PySem.W.Frag} {H : Hp} {a : Addr} {rs : List Row} (h : RowsM H a rs) : RowsL K H a rs := by
  obtain ⟨ps, h1, h2⟩ := h
  exact ⟨ps, SqL.of h1, h2⟩
/-! numbers by names -/
def wkv (ws : List (Str × Int)) : List (Key × V) := ws.map fun p => (Sum.inr p.1, V.int p.2)
def lookW (ws : List (Str × Int)) (n : Str) : Option Int := (ws.find? fun p => decide (p.1 = n)).map (·.2)
theorem valV_wkv (n : Str) : ∀ ws : List (Str × Int), valV (wkv ws) (Sum.inr n) = (lookW ws n).map V.int
  | [] => rfl
  | p :: r => by
    have ih := valV_wkv n r
    by_cases e : p.1 = n
    · rw [show wkv (p :: r) = (Sum.inr p.1, V.int p.2) :: wkv r from rfl, valV_pos (by rw [e])]
      unfold lookW
      rw [List.find?_cons_of_pos (by simpa using e)]
      rfl
    · rw [show wkv (p :: r) = (Sum.inr p.1, V.int p.2) :: wkv r from rfl, valV_neg (fun z => e (Sum.inr.inj z)), ih]
      unfold lookW
      rw [List.find?_cons_of_neg (by simpa using e)]
theorem lookW_hit {n : Str} {v : Int} {ws : List (Str × Int)} : lookW ((n, v) :: ws) n = some v := by
  unfold lookW
  rw [List.find?_cons_of_pos (by simp)]
  rfl
theorem lookW_skip {m n : Str} {v : Int} {ws : List (Str × Int)} (h : decide (m = n) = false) : lookW ((m, v) :: ws) n = lookW ws n := by
  unfold lookW
  rw [List.find?_cons_of_neg (by simpa using h)]
/-! what a gate tells -/
def bopI (o : Bop) (x y : Int) : Int := match o with
  | .and => x * y
  | .or => x + y - x * y
  | .xor => (x + y) % 2
def gateI (ws : List (Str × Int)) (bits : List Int) : Row → Int
  | .fix b => b
  | .inn n k => (lookW ws n).getD 0 / 2 ^ k % 2
  | .inv a => 1 - bits.getD a 0
  | .bin o a b => bopI o (bits.getD a 0) (bits.getD b 0)
  | .lat _ => 0
def is01 (x : Int) : Prop := x = 0 ∨ x = 1
def RowOk (N : Str → Prop) (n : Nat) : Row → Prop
  | .fix b => is01 b
  | .inn m k => N m ∧ k < 64
  | .inv a => a < n
  | .bin _ a b => a < n ∧ b < n
  | .lat a => a < n
def noLat : Row → Prop
  | .lat _ => False
  | _ => True
def RowsOk (N : Str → Prop) (rs : List Row) : Prop := ∀ (i : Nat) r, rs[i]? = some r → RowOk N i r
def NoLats (rs : List Row) : Prop := ∀ r ∈ rs, noLat r
/-- all names have numbers -/
def Has (N : Str → Prop) (ws : List (Str × Int)) : Prop := ∀ n, N n → ∃ v, lookW ws n = some v
def toldL (ws : List (Str × Int)) (rs : List Row) : List Int := rs.foldl (fun bits r => bits ++ [gateI ws bits r]) []
theorem toldL_snoc (ws : List (Str × Int)) (rs : List Row) (r : Row) : toldL ws (rs ++ [r]) = toldL ws rs ++ [gateI ws (toldL ws rs) r] := by
  unfold toldL
  rw [List.foldl_append]
  rfl
theorem take_snoc {α : Type} {xs : List α} {i : Nat} {x : α} (h : xs[i]? = some x) : xs.take (i + 1) = xs.take i ++ [x] := by
  rw [List.take_add_one, h]
  rfl
theorem toldL_len (ws : List (Str × Int)) (rs : List Row) : (toldL ws rs).length = rs.length := by
  have key : ∀ (rs : List Row) (acc : List Int), (rs.foldl (fun bits r => bits ++ [gateI ws bits r]) acc).length = acc.length + rs.length := by
    intro rs
    induction rs with
    | nil => intro acc; rfl
    | cons r rs ih =>
      intro acc
      rw [List.foldl_cons, ih, List.length_append, List.length_singleton, List.length_cons]
      omega
  unfold toldL
  rw [key]
  exact Nat.zero_add _
def All01 (bs : List Int) : Prop := ∀ x ∈ bs, is01 x
theorem all01_get {bs : List Int} (h : All01 bs) (i : Nat) : is01 (bs.getD i 0) := by
  rw [List.getD_eq_getElem?_getD]
  cases e : bs[i]? with
  | none => exact .inl rfl
  | some x => exact h x (List.mem_of_getElem? e)
theorem bopI_01 (o : Bop) {x y : Int} (hx : is01 x) (hy : is01 y) : is01 (bopI o x y) := by
  unfold is01 at *
  cases o <;> unfold bopI <;> rcases hx with rfl | rfl <;> rcases hy with rfl | rfl <;> decide
theorem gateI_01 {N : Str → Prop} {n : Nat} {r : Row} (ws : List (Str × Int)) {bs : List Int} (h : All01 bs) (ok : RowOk N n r) : is01 (gateI ws bs r) := by
  cases r with
  | fix b => exact ok
  | inn m k =>
    show (lookW ws m).getD 0 / 2 ^ k % 2 = 0 ∨ (lookW ws m).getD 0 / 2 ^ k % 2 = 1
    omega
  | inv a =>
    have q : bs.getD a 0 = 0 ∨ bs.getD a 0 = 1 := all01_get h a
    show 1 - bs.getD a 0 = 0 ∨ 1 - bs.getD a 0 = 1
    omega
  | bin o a b => exact bopI_01 o (all01_get h a) (all01_get h b)
  | lat a => exact .inl rfl
theorem toldL_01 {N : Str → Prop} (ws : List (Str × Int)) {rs : List Row} (ok : RowsOk N rs) : ∀ i, All01 (toldL ws (rs.take i))
  | 0 => fun x hx => by cases hx
  | i + 1 => by
    have ih := toldL_01 ws ok i
    cases e : rs[i]? with
    | none =>
      have : rs.take (i + 1) = rs.take i := by rw [List.take_add_one, e]; exact List.append_nil _
      rw [this]
      exact ih
    | some r =>
      rw [take_snoc e, toldL_snoc]
      intro x hx
      rcases List.mem_append.mp hx with q | q
      · exact ih x q
      · rw [List.mem_singleton.mp q]
        exact gateI_01 ws ih (ok i r e)
/-- a bit by its place -/
theorem bit_get {bs : List Int} {a : Nat} (h : a < bs.length) : atI (bs.map V.int) (a : Int) = some (.int (bs.getD a 0)) := by
  rw [get_int h, List.getD_eq_getElem?_getD, List.getElem?_eq_getElem h]
  rfl
/-! rows that are put -/
theorem rowAt_upd {H : Hp} {a p : Addr} {xs ys : List V} {r : Row} (h : H a = some (.lst xs)) (hp : RowAt H p r) : RowAt (upd H a (.lst ys)) p r := by
  have ne : p ≠ a := fun e => by
    rw [e] at hp
    exact absurd (hp.symm.trans h) (fun z => by cases z)
  show upd H a (.lst ys) p = _
  rw [upd_ne ne]
  exact hp
theorem RowsM.push {H : Hp} {a p : Addr} {rs : List Row} {r : Row} {ps : List Addr} (h : H a = some (.lst (ps.map V.ref))) (hA : A2 (RowAt H) ps rs) (hp : RowAt H p r) : RowsM (upd H a (.lst (ps.map V.ref ++ [.ref p]))) a (rs ++ [r]) :=
  ⟨ps ++ [p], by rw [upd_same, List.map_append]; rfl, (hA.mono fun _ _ e => rowAt_upd h e).snoc (rowAt_upd h hp)⟩
theorem RowsM.upd {H : Hp} {a b : Addr} {rs : List Row} {xs ys : List V} (ne : a ≠ b) (h : H b = some (.lst xs)) (hr : RowsM H a rs) : RowsM (upd H b (.lst ys)) a rs := by
  obtain ⟨ps, h1, h2⟩ := hr
  exact ⟨ps, by rw [upd_ne ne]; exact h1, h2.mono fun _ _ e => rowAt_upd h e⟩
theorem RowsM.len {H : Hp} {a : Addr} {rs : List Row} (h : RowsM H a rs) : ∃ ps : List Addr, H a = some (.lst (ps.map V.ref)) ∧ A2 (RowAt H) ps rs ∧ ps.length = rs.length := by
  obtain ⟨ps, h1, h2⟩ := h
  exact ⟨ps, h1, h2, h2.1⟩
theorem RowsOk.snoc {N : Str → Prop} {rs : List Row} {r : Row} (h : RowsOk N rs) (k : RowOk N rs.length r) : RowsOk N (rs ++ [r]) := by
  intro i x hx
  rcases Nat.lt_trichotomy i rs.length with q | q | q
  · rw [List.getElem?_append_left q] at hx
    exact h i x hx
  · subst q
    rw [List.getElem?_append_right (Nat.le_refl _), Nat.sub_self] at hx
    cases hx
    exact k
  · rw [List.getElem?_eq_none (by rw [List.length_append]; exact q)] at hx
    cases hx
theorem NoLats.snoc {rs : List Row} {r : Row} (h : NoLats rs) (k : noLat r) : NoLats (rs ++ [r]) := by
  intro x hx
  rcases List.mem_append.mp hx with q | q
  · exact h x q
  · rw [List.mem_singleton.mp q]
    exact k
/-! rows as data -/
def rowD : Row → PyData
  | .fix b => .tuple [.str "fix", .int b]
  | .inn n k => .tuple [.str "in", .str n, .int (k : Int)]
  | .inv a => .tuple [.str "not", .int (a : Int)]
  | .bin o a b => .tuple [.str (bopS o), .int (a : Int), .int (b : Int)]
  | .lat a => .tuple [.str "latch", .int (a : Int)]
theorem dp_row {K : PySem.W.Frag} {H : Hp} {p : Addr} {r : Row} (h : RowAt H p r) : Dp K H (.ref p) (rowD r) := by
  cases r with
  | fix b => exact .tup (SqT.of h) (.cons (.str _) (.cons (.int _) .nil))
  | inn n k => exact .tup (SqT.of h) (.cons (.str _) (.cons (.str _) (.cons (.int _) .nil)))
  | inv a => exact .tup (SqT.of h) (.cons (.str _) (.cons (.int _) .nil))
  | bin o a b => exact .tup (SqT.of h) (.cons (.str _) (.cons (.int _) (.cons (.int _) .nil)))
  | lat a => exact .tup (SqT.of h) (.cons (.str _) (.cons (.int _) .nil))
theorem A2.tail {α β : Type} {R : α → β → Prop} {x : α} {y : β} {xs : List α} {ys : List β} (h : A2 R (x :: xs) (y :: ys)) : R x y ∧ A2 R xs ys :=
  ⟨h.2 0 x y rfl rfl, by have := h.1; simp only [List.length_cons] at this; omega, fun i u v hu hv => h.2 (i + 1) u v hu hv⟩
theorem dp_rows {K : PySem.W.Frag} {H : Hp} : ∀ {ps : List Addr} {rs : List Row}, A2 (RowAt H) ps rs → DpAll K H (ps.map V.ref) (rs.map rowD)
  | [], [], _ => .nil
  | [], _ :: _, h => by have := h.1; simp at this
  | _ :: _, [], h => by have := h.1; simp at this
  | p :: ps, r :: rs, h => .cons (dp_row h.tail.1) (dp_rows h.tail.2)
def NmOk (r : Row) : Prop := match r with
  | .inn n _ => PyData.strOk n = true
  | _ => True
theorem lay_row {r : Row} (h : NmOk r) : PyData.canLay0 (rowD r) = true := by
  cases r with
  | fix b =>
    show (PyData.strOk "fix" && (true && true)) = true
    decide +kernel
  | inn n k =>
    show (PyData.strOk "in" && (PyData.strOk n && (true && true))) = true
    rw [show PyData.strOk n = true from h]
    decide +kernel
  | inv a =>
    show (PyData.strOk "not" && (true && true)) = true
    decide +kernel
  | bin o a b =>
    show (PyData.strOk (bopS o) && (true && (true && true))) = true
    cases o <;> decide +kernel
  | lat a =>
    show (PyData.strOk "latch" && (true && true)) = true
    decide +kernel
theorem lay_rows : ∀ {rs : List Row}, (∀ r ∈ rs, NmOk r) → PyData.canLayAll0 (rs.map rowD) = true
  | [], _ => rfl
  | r :: rs, h => by
    show (PyData.canLay0 (rowD r) && PyData.canLayAll0 (rs.map rowD)) = true
    rw [lay_row (h r (List.mem_cons_self ..)), lay_rows fun x hx => h x (List.mem_cons_of_mem _ hx)]
    rfl
theorem depth_row (r : Row) : PyData.depth (rowD r) ≤ 1 := by
  cases r <;> exact Nat.le_of_ble_eq_true rfl
theorem depth_rows : ∀ rs : List Row, PyData.depthAll (rs.map rowD) ≤ 1
  | [] => Nat.zero_le 1
  | r :: rs => Nat.max_le.mpr ⟨depth_row r, depth_rows rs⟩
theorem shaped_rows {rs : List Row} (h : ∀ r ∈ rs, NmOk r) : SeqAt.shaped (.list (rs.map rowD)) = true := by
  unfold SeqAt.shaped
  rw [show PyData.canLay0 (.list (rs.map rowD)) = true from lay_rows h, Bool.true_and]
  have := depth_rows rs
  exact decide_eq_true (show PyData.depthAll (rs.map rowD) + 1 ≤ 64 by omega)
/-! dicts of numbers compared, copied -/
theorem flat_wkv (ws : List (Str × Int)) : ∀ p ∈ wkv ws, flatB p.2 = true := by
  intro p hp
  obtain ⟨q, _, rfl⟩ := List.mem_map.mp hp
  rfl
theorem valV_self : ∀ {ws : List (Str × Int)}, (ws.map (·.1)).Nodup → ∀ p ∈ wkv ws, valV (wkv ws) p.1 = some p.2
  | [], _, p, hp => by cases hp
  | q :: r, h, p, hp => by
    obtain ⟨h1, h2⟩ := List.nodup_cons.mp (show (q.1 :: r.map (·.1)).Nodup from h)
    rcases List.mem_cons.mp hp with e | e
    · rw [e]
      exact valV_pos rfl
    · have ih := valV_self h2 p e
      obtain ⟨z, hz, rfl⟩ := List.mem_map.mp e
      have ne : ¬ q.1 = z.1 := fun w => h1 (by rw [w]; exact List.mem_map.mpr ⟨z, hz, rfl⟩)
      rw [show wkv (q :: r) = (Sum.inr q.1, V.int q.2) :: wkv r from rfl, valV_neg (fun w => ne (Sum.inr.inj w))]
      exact ih
theorem w_eqDict {H : Hp} {Q : VK} {a b : Addr} {ws : List (Str × Int)} (h1 : H a = some (.dK (wkv ws))) (h2 : H b = some (.dK (wkv ws))) (nd : (ws.map (·.1)).Nodup) (q : Q (.bl true) H) : rEqDA (.ref a) (.ref b) H Q :=
  ⟨a, b, _, _, rfl, rfl, h1, h2, rfl, fun p hp => ⟨valV_self nd p hp, flat_wkv ws p hp⟩, q⟩
theorem w_neDict {H : Hp} {Q : VK} {a b : Addr} {ws : List (Str × Int)} (h1 : H a = some (.dK (wkv ws))) (h2 : H b = some (.dK (wkv ws))) (nd : (ws.map (·.1)).Nodup) (q : Q (.bl false) H) : rNeDA (.ref a) (.ref b) H Q :=
  ⟨a, b, _, _, rfl, rfl, h1, h2, rfl, fun p hp => ⟨valV_self nd p hp, flat_wkv ws p hp⟩, q⟩
def rDictD : List V → Hp → VK → Prop := fun xs H Q => ∃ (a : Addr) (kvs : List (Key × V)), xs = [.ref a] ∧ Rd H a (.dK kvs) ∧ ∀ p, H p = none → Q (.ref p) (upd H p (.dK kvs))
theorem c_dictD {X : Cx} : CallR X (.type "dict") rDictD := call_dictD
theorem w_dictD {H : Hp} {Q : VK} {a : Addr} {kvs : List (Key × V)} (h : H a = some (.dK kvs)) (q : ∀ p H', H p = none → Same H H' → H' p = some (.dK kvs) → Q (.ref p) H') : rDictD [.ref a] H Q :=
  ⟨a, kvs, rfl, .inl h, fun p hp => q p _ hp (same_upd hp) upd_same⟩
/-! a written dict -/
def DspE (p : Addr) (Q : VK) (ps : List (V × V)) (H2 : Hp) : Prop := H2 p = some (.dK []) ∧ ∃ kvs : List (Key × V), ps = kvs.map (fun kv => (kV kv.1, kv.2)) ∧ kvs.length ≤ 15 ∧ Q (.ref p) (upd H2 p (.dK (mergeK [] kvs)))
theorem w_disp {σ : L2.St} {H : Hp} {Q : VK} {trs : List (TE × TE)} (h : ∀ p H', H p = none → Same H H' → H' p = some (.dK []) → tPairs trs σ H' fun ps H2 => DspE p Q ps H2) : tDisp trs σ H Q := fun p hp => h p _ hp (same_upd hp) upd_same
theorem w_pairs {σ : L2.St} {H : Hp} {tk tv : TE} {r : List (TE × TE)} {R : List (V × V) → Hp → Prop} (h : tk σ H fun x H1 => tv σ H1 fun y H2 => tPairs r σ H2 fun ps H3 => R ((x, y) :: ps) H3) : tPairs ((tk, tv) :: r) σ H R := h
theorem w_pairs0 {σ : L2.St} {H : Hp} {R : List (V × V) → Hp → Prop} (h : R [] H) : tPairs [] σ H R := h
theorem w_DspE {p : Addr} {Q : VK} {ps : List (V × V)} {H2 : Hp} (ws : List (Str × Int)) (nd : (ws.map (·.1)).Nodup) (e : H2 p = some (.dK [])) (ep : ps = (wkv ws).map (fun kv => (kV kv.1, kv.2))) (hl : ws.length ≤ 15) (q : ∀ H', H' p = some (.dK (wkv ws)) → (∀ H0, Same H0 H2 → H0 p = none → Same H0 H') → Q (.ref p) H') : DspE p Q ps H2 := by
  refine ⟨e, wkv ws, ep, by rw [wkv, List.length_map]; exact hl, ?_⟩
  have key : ∀ (r acc : List (Str × Int)), ((acc ++ r).map (·.1)).Nodup → mergeK (wkv acc) (wkv r) = wkv (acc ++ r) := by
    intro r
    induction r with
    | nil => intro acc _; rw [List.append_nil]; rfl
    | cons z r ih =>
      intro acc hn
      have hz : valV (wkv acc) (Sum.inr z.1) = none := by
        cases g : valV (wkv acc) (Sum.inr z.1) with
        | none => rfl
        | some v =>
          have m := valV_in g
          obtain ⟨u, hu, eu⟩ := List.mem_map.mp m
          obtain ⟨t, ht, rfl⟩ := List.mem_map.mp hu
          have e1 : t.1 = z.1 := Sum.inr.inj eu
          rw [List.map_append, List.map_cons] at hn
          have d := (List.nodup_append.mp hn).2.2 t.1 (List.mem_map.mpr ⟨t, ht, rfl⟩) z.1 (List.mem_cons_self ..)
          exact absurd e1 d
      show mergeK (putK (wkv acc) (Sum.inr z.1) (V.int z.2)) (wkv r) = _
      rw [putK_new _ hz]
      have e2 : wkv acc ++ [((Sum.inr z.1 : Key), V.int z.2)] = wkv (acc ++ [z]) := by
        unfold wkv
        rw [List.map_append]
        rfl
      rw [e2, ih (acc ++ [z]) (by rw [List.append_assoc]; exact hn), List.append_assoc]
      rfl
  have := key ws [] nd
  rw [show mergeK [] (wkv ws) = wkv ws from this]
  exact q _ upd_same fun H0 s n => same_mut s n
end Dpr

namespace Dpr
open PySem PySem.Spec PyProof.Rows L2
def topS (i : Nat) : Stmt := PySem.Challenge.pw_dotpress_k06_one_gate.main.body.getD i (.Pass ⟨0, 0, 0, 0⟩)
abbrev s_gate_bit : Stmt := topS 1
theorem sc_gate_bit : FnScope ["row", "bits", "words", "word"] ["row", "bits", "words"] (defScope s_gate_bit) := ⟨rfl, rfl, rfl, by decide +kernel, rfl, by decide +kernel, by decide +kernel⟩
abbrev s_told : Stmt := topS 2
theorem sc_told : FnScope ["rows", "words", "bits", "row"] ["rows", "words"] (defScope s_told) := ⟨rfl, rfl, rfl, by decide +kernel, rfl, by decide +kernel, by decide +kernel⟩
abbrev s_law_whole : Stmt := topS 4
theorem sc_law_whole : FnScope ["_law_found"] ["_law_found"] (defScope s_law_whole) := ⟨rfl, rfl, rfl, by decide +kernel, rfl, by decide +kernel, by decide +kernel⟩
abbrev s_law_mixed : Stmt := topS 5
theorem sc_law_mixed : FnScope ["_law_cell", "_law_k", "_law_number"] ["_law_cell", "_law_k"] (defScope s_law_mixed) := ⟨rfl, rfl, rfl, by decide +kernel, rfl, by decide +kernel, by decide +kernel⟩
abbrev s_law_great : Stmt := topS 6
theorem sc_law_great : FnScope ["_law_cell", "_law_k", "_law_number"] ["_law_cell", "_law_k"] (defScope s_law_great) := ⟨rfl, rfl, rfl, by decide +kernel, rfl, by decide +kernel, by decide +kernel⟩
abbrev s_law_list : Stmt := topS 7
theorem sc_law_list : FnScope ["_law_found", "_law_due", "_law_k"] ["_law_found", "_law_due"] (defScope s_law_list) := ⟨rfl, rfl, rfl, by decide +kernel, rfl, by decide +kernel, by decide +kernel⟩
abbrev s_law_gate_bit : Stmt := topS 8
theorem sc_law_gate_bit : FnScope ["_law_word", "_law_one_here", "_law_two"] ["_law_word", "_law_one_here", "_law_two"] (defScope s_law_gate_bit) := ⟨rfl, rfl, rfl, by decide +kernel, rfl, by decide +kernel, by decide +kernel⟩
abbrev s_law_one : Stmt := topS 9
theorem sc_law_one : FnScope ["_law_cell", "_law_k", "_law_number", "_law_word", "_law_one_here", "_law_two", "_law_rows", "_law_words", "_law_due", "_law_j", "_law_handed", "_law_kept", "_law_row"] ["_law_cell", "_law_k"] (defScope s_law_one) := ⟨rfl, rfl, rfl, by decide +kernel, rfl, by decide +kernel, by decide +kernel⟩
abbrev s_law : Stmt := topS 10
theorem sc_law : FnScope ["_law_script", "_law_cells", "_law_k"] ["_law_script"] (defScope s_law) := ⟨rfl, rfl, rfl, by decide +kernel, rfl, by decide +kernel, by decide +kernel⟩

structure Top (K : PySem.W.Frag) (mg : Str → Option Value) where
  a_gate_bit : Addr
  d_gate_bit : FuncData
  f_gate_bit : Fun K "gate_bit" "gate_bit" s_gate_bit a_gate_bit d_gate_bit
  b_gate_bit : Binds K d_gate_bit ["row", "bits", "words"] []
  g_gate_bit : mg "gate_bit" = some (.ref a_gate_bit)
  a_told : Addr
  d_told : FuncData
  f_told : Fun K "told" "told" s_told a_told d_told
  b_told : Binds K d_told ["rows", "words"] []
  g_told : mg "told" = some (.ref a_told)
  a_law_whole : Addr
  d_law_whole : FuncData
  f_law_whole : Fun K "_law_whole" "_law_whole" s_law_whole a_law_whole d_law_whole
  b_law_whole : Binds K d_law_whole ["_law_found"] []
  g_law_whole : mg "_law_whole" = some (.ref a_law_whole)
  a_law_mixed : Addr
  d_law_mixed : FuncData
  f_law_mixed : Fun K "_law_mixed" "_law_mixed" s_law_mixed a_law_mixed d_law_mixed
  b_law_mixed : Binds K d_law_mixed ["_law_cell", "_law_k"] []
  g_law_mixed : mg "_law_mixed" = some (.ref a_law_mixed)
  a_law_great : Addr
  d_law_great : FuncData
  f_law_great : Fun K "_law_great" "_law_great" s_law_great a_law_great d_law_great
  b_law_great : Binds K d_law_great ["_law_cell", "_law_k"] []
  g_law_great : mg "_law_great" = some (.ref a_law_great)
  a_law_list : Addr
  d_law_list : FuncData
  f_law_list : Fun K "_law_list" "_law_list" s_law_list a_law_list d_law_list
  b_law_list : Binds K d_law_list ["_law_found", "_law_due"] []
  g_law_list : mg "_law_list" = some (.ref a_law_list)
  a_law_gate_bit : Addr
  d_law_gate_bit : FuncData
  f_law_gate_bit : Fun K "_law_gate_bit" "_law_gate_bit" s_law_gate_bit a_law_gate_bit d_law_gate_bit
  b_law_gate_bit : Binds K d_law_gate_bit ["_law_word", "_law_one_here", "_law_two"] []
  g_law_gate_bit : mg "_law_gate_bit" = some (.ref a_law_gate_bit)
  a_law_one : Addr
  d_law_one : FuncData
  f_law_one : Fun K "_law_one" "_law_one" s_law_one a_law_one d_law_one
  b_law_one : Binds K d_law_one ["_law_cell", "_law_k"] []
  g_law_one : mg "_law_one" = some (.ref a_law_one)
  a_law : Addr
  d_law : FuncData
  f_law : Fun K "law" "law" s_law a_law d_law
  b_law : Binds K d_law ["_law_script"] []
  g_law : mg "law" = some (.ref a_law)
  z_bool : mg "bool" = none
  z_dict : mg "dict" = none
  z_int : mg "int" = none
  z_isinstance : mg "isinstance" = none
  z_len : mg "len" = none
  z_list : mg "list" = none
  z_range : mg "range" = none

section
variable {P : Program} {w : World} {K : PySem.W.Frag} {mg : Str → Option Value} {base : Heap}


/-! the walk: one step a construct -/
open PySem PySem.Spec PyProof.Rows L2 Dpr
local macro_rules | `(tactic| walk_at "hp") => `(tactic| first
  | assumption
  | exact upd_same
  | (apply hp_upd; assumption; walk_at "hp")
  | (apply hp_upd2; assumption; walk_at "hp")
  | (apply same_at; assumption; walk_at "hp"))
local macro_rules | `(tactic| walk_at "sq") => `(tactic| first
  | assumption
  | exact SqL.of (by assumption)
  | exact SqL.of upd_same
  | exact SqT.of (by assumption)
  | (apply SqL.of; walk_at "hp")
  | (apply SqT.of; walk_at "hp")
  | (apply Same.seq; assumption; walk_at "sq")
  | (apply same_tup; assumption; walk_at "sq"))
local macro_rules | `(tactic| walk_at "sz") => `(tactic| first
  | omega
  | (simp only [List.length_map, List.length_append, List.length_cons, List.length_nil, List.length_range, List.length_replicate, List.length_take]; omega))
local macro_rules | `(tactic| walk_at "w1") => `(tactic| first
  | with_reducible refine w_seq ?_
  | with_reducible refine w_asg ?_
  | ((with_reducible apply w_var); rfl)
  | with_reducible refine w_c ?_
  | with_reducible refine w_op ?_
  | with_reducible refine w_un ?_
  | with_reducible refine w_I0 ?_
  | with_reducible refine w_U ?_
  | with_reducible refine w_bl ?_
  | with_reducible refine w_test ?_
  | with_reducible refine w_tB ?_
  | ((with_reducible refine w_eq ?_ ?_); rfl)
  | ((with_reducible refine w_ne ?_ ?_); rfl)
  | with_reducible refine w_if ?_
  | with_reducible refine w_cons ?_
  | with_reducible refine w_nil ?_
  | with_reducible refine w_itT ?_
  | with_reducible refine w_itF ?_
  | ((with_reducible refine w_itS1 ?_ ?_); decide +kernel)
  | ((with_reducible refine w_itS0 ?_ ?_); decide +kernel)
  | ((with_reducible refine w_itN1 ?_ ?_); decide +kernel)
  | ((with_reducible refine w_itN0 ?_ ?_); decide +kernel)
  | with_reducible refine w_dget ?_
  | ((with_reducible apply w_DG1); (walk_at "hp"); assumption)
  | ((with_reducible refine w_itC ?_ ?_); (first | decide | (simp only [List.length_cons, List.length_nil]; decide)))
  | ((with_reducible refine w_itD ?_ ?_); (first | decide | (simp only [List.length_cons, List.length_nil]; decide)))
  | with_reducible refine w_asgG ?_
  | with_reducible refine w_drop ?_
  | with_reducible refine w_ret ?_
  | with_reducible refine w_retN ?_
  | with_reducible refine w_next ?_
  | with_reducible refine w_cont ?_
  | with_reducible refine w_brk ?_
  | ((with_reducible apply w_aug); rfl)
  | with_reducible refine w_ipI ?_
  | with_reducible refine w_chain ?_
  | with_reducible refine w_and ?_
  | with_reducible refine w_or ?_
  | with_reducible refine w_not ?_
  | with_reducible refine w_andV ?_
  | with_reducible refine w_orV ?_
  | with_reducible refine w_notV ?_
  | with_reducible refine w_ifx ?_
  | with_reducible refine w_call ?_
  | with_reducible refine w_cb ?_
  | ((with_reducible refine w_for ?_); (try simp only [List.set_cons_zero, List.set_cons_succ]))
  | ((with_reducible refine w_lc ?_); (try simp only [List.set_cons_zero, List.set_cons_succ]))
  | with_reducible refine w_bm ?_
  | with_reducible refine w_bm0 ?_
  | ((with_reducible apply w_BML); (walk_at "hp"))
  | ((with_reducible apply w_BM0L); (walk_at "hp"))
  | ((with_reducible apply w_append); (walk_at "hp"); (try (walk_at "sz")))
  | ((with_reducible apply w_gTup); (walk_at "sq"); rfl)
  | with_reducible refine w_gCons ?_
  | with_reducible refine w_gNil ?_
  | with_reducible refine w_gName ?_
  | with_reducible refine w_iE ?_
  | ((with_reducible apply w_IE1); (walk_at "sq"))
  | with_reducible refine w_bit1 ?_
  | with_reducible refine w_shrN ?_
  | ((with_reducible refine w_shlN ?_ ?_); omega)
  | ((with_reducible refine w_divP ?_ ?_); omega)
  | with_reducible refine w_iL ?_
  | with_reducible refine w_iT ?_
  | with_reducible refine w_iR1 ?_
  | with_reducible refine w_iR2 ?_
  | ((with_reducible apply w_IL1); (walk_at "sq"))
  | ((with_reducible apply w_IT1); (walk_at "sq"))
  | ((with_reducible refine w_IR1 ?_ ?_); (walk_at "sz"))
  | ((with_reducible refine w_IR2 ?_ ?_); (walk_at "sz"))
  | ((with_reducible apply w_sl); (walk_at "sq"); intro _ _ _ _ _)
  | with_reducible refine w_tsl ?_
  | with_reducible refine w_tnp ?_
  | with_reducible refine w_tpt ?_
  | with_reducible refine w_pt ?_
  | ((with_reducible apply w_cat); (walk_at "hp"); (walk_at "hp"); (try (walk_at "sz")))
  | ((with_reducible apply w_listL); (walk_at "sq"); intro _ _ _ _ _)
  | ((with_reducible apply w_listT); (walk_at "sq"); intro _ _ _ _ _)
  | with_reducible refine w_tbits ?_
  | with_reducible refine w_bits ?_
  | with_reducible refine w_tup ?_
  | with_reducible refine w_lst ?_
  | ((with_reducible refine w_alT ?_ ?_); (exact sz_le rfl); intro _ _ _ _ _)
  | ((with_reducible refine w_alL ?_ ?_); (exact sz_le rfl); intro _ _ _ _ _)
  | with_reducible refine w_abs ?_
  | with_reducible refine w_max2 ?_
  | with_reducible refine w_min2 ?_
  | ((with_reducible refine w_I ?_ ?_); (first | exact ⟨by decide, by decide⟩ | (show (_ : Int) < _; decide) | exact p2pos _ | exact ⟨by omega, by omega, by decide⟩ | (show (_ : Int) < _; omega) | (show (_ : Int) ≤ _; omega) | exact .of_left (by decide) | exact .of_right (by decide) | exact mul_sm (by omega) | exact mul_sm2 (by omega) | exact mul_cc (by assumption) (by assumption) | exact mul_ok2 (n := 250) (by assumption) (by decide) (by decide)))
  | ((with_reducible apply w_ixL); (walk_at "sq"); rfl)
  | ((with_reducible apply w_ixT); (walk_at "sq"); rfl)
  | ((with_reducible apply w_lenL); (walk_at "sq"))
  | ((with_reducible apply w_lenT); (walk_at "sq"))
  | (with_reducible refine w_isi (TyX.base (TyOf.int _)) (kit_ii _) ?_)
  | (with_reducible refine w_isi (TyX.base (TyOf.int _)) (kit_ib _) ?_)
  | (with_reducible refine w_isi (TyX.base (TyOf.bl _)) (kit_bi _) ?_)
  | (with_reducible refine w_isi (TyX.base (TyOf.bl _)) (kit_bb _) ?_)
  | (with_reducible refine w_isi (TyX.base (TyOf.str _)) (kit_ss _) ?_)
  | ((with_reducible apply w_isiT); (walk_at "hp"))
  | ((with_reducible apply w_isiL); (walk_at "hp")))
local macro_rules | `(tactic| walk_at "split") => `(tactic| first
  | ((with_reducible refine w_itS ?_ ?_) <;> intro _)
  | ((with_reducible refine w_itSN ?_ ?_) <;> intro _)
  | ((with_reducible refine w_itI ?_ ?_) <;> intro _)
  | ((with_reducible refine w_itN ?_ ?_) <;> intro _)
  | ((with_reducible refine w_itn ?_ ?_) <;> intro _)
  | ((with_reducible refine w_itd ?_ ?_) <;> intro _)
  | ((with_reducible refine w_itb ?_ ?_) <;> intro _))
local macro_rules | `(tactic| walk_at "wk") => `(tactic| repeat' (walk_at "w1"))
local macro_rules | `(tactic| walk_at "ws") => `(tactic| repeat' (first | (walk_at "w1") | ((walk_at "split") <;> (try (exfalso; omega)))))

local macro_rules | `(tactic| walk_at "w1") => `(tactic| first
  | ((with_reducible refine w_disp ?_); intro _ _ _ _ _)
  | with_reducible refine w_pairs ?_
  | with_reducible refine w_pairs0 ?_
  | ((with_reducible apply w_dictD); (walk_at "hp"); intro _ _ _ _ _))

def sp_law_whole (K : PySem.W.Frag) : Sp := fun vs H Q _ => ∃ i : Int, vs = [.int i] ∧ Q (.bl true) H
theorem ok_law_whole (T : Top K mg) : FnOk P w K mg base CX0 1 T.a_law_whole T.d_law_whole ["_law_found"] (sp_law_whole K) := by
  refine T.f_law_whole.ok sc_law_whole (fun vs H Q E h => ?_) (fun cdv A outer s H vs Q E hr h => ?_)
  · obtain ⟨i, rfl, _⟩ := h
    rfl
  obtain ⟨i, rfl, h⟩ := h
  refine ⟨_, (pss_one (ps_ret (pe_and (pe_callB (c_isiK K) (by rfl) T.z_isinstance (by decide +kernel) (pa_cons (pv 0) (pa_cons (pe_bltn (v := .ty "int") (by rfl) T.z_int (by decide +kernel) rfl) pa_nil))) (pe_one (pe_not (pe_callB (c_isiK K) (by rfl) T.z_isinstance (by decide +kernel) (pa_cons (pv 0) (pa_cons (pe_bltn (v := .ty "bool") (by rfl) T.z_bool (by decide +kernel) rfl) pa_nil)))))))), ?_⟩
  try dsimp only [cxOf, Cx.nox, Cx.wish]
  simp only [L2.start, List.map_cons, List.map_nil, List.length_cons, List.length_nil, Nat.reduceAdd, Nat.reduceSub, List.replicate_succ, List.replicate_zero, List.cons_append, List.nil_append]
  walk_at "wk"
  exact h
theorem use_whole {i : Int} {H : Hp} {Q : VK} {E : XK} (h : Q (.bl true) H) : sp_law_whole K ([.int i] ++ []) H Q E := ⟨i, rfl, h⟩
local macro_rules | `(tactic| walk_at "w1") => `(tactic| with_reducible refine use_whole ?_)

theorem and_01 {x y : Int} (hx : is01 x) (hy : is01 y) : Builtin.bitAnd x y = bopI .and x y := by
  rcases hx with rfl | rfl <;> rcases hy with rfl | rfl <;> decide
theorem or_01 {x y : Int} (hx : is01 x) (hy : is01 y) : Builtin.bitOr x y = bopI .or x y := by
  rcases hx with rfl | rfl <;> rcases hy with rfl | rfl <;> decide
theorem xor_01 {x y : Int} (hx : is01 x) (hy : is01 y) : Builtin.bitXor x y = bopI .xor x y := by
  rcases hx with rfl | rfl <;> rcases hy with rfl | rfl <;> decide
def sp_gate_bit (K : PySem.W.Frag) : Sp := fun vs H Q _ => ∃ (p b d : Addr) (r : Row) (bs : List Int) (ws : List (Str × Int)) (N : Str → Prop), vs = [.ref p, .ref b, .ref d] ∧ RowAt H p r ∧ SqL K H b (bs.map V.int) ∧ H d = some (.dK (wkv ws)) ∧
  RowOk N bs.length r ∧ noLat r ∧ Has N ws ∧ All01 bs ∧ Q (.int (gateI ws bs r)) H
theorem ok_gate_bit (T : Top K mg) : FnOk P w K mg base CX0 1 T.a_gate_bit T.d_gate_bit ["row", "bits", "words"] (sp_gate_bit K) := by
  refine T.f_gate_bit.ok sc_gate_bit (fun vs H Q E h => ?_) (fun cdv A outer s H vs Q E hr h => ?_)
  · obtain ⟨p, b, d, r, bs, ws, N, rfl, _⟩ := h
    rfl
  obtain ⟨p, b, d, r, bs, ws, N, rfl, h⟩ := h
  refine ⟨_, (pss_cons (ps_set (i := 3) sc_gate_bit.nd rfl (.inl rfl) (pe_ix (ix_tupK K) (pv 0) pe_int (fun _ _ => rfl)))
      (pss_cons (ps_if (pt_cmpR op_eq (pv 3) pe_str (nomark _)) (pss_one (ps_ret (pe_ix (ix_tupK K) (pv 0) pe_int (fun _ _ => rfl)))) pss_nil)
      (pss_cons (ps_if (pt_cmpR op_eq (pv 3) pe_str (nomark _)) (pss_one (ps_ret (pe_op op_bit1 (pe_op op_shrK (pe_dget (hu_of hr) (pv 2) (pe_ix (ix_tupK K) (pv 0) pe_int (fun _ _ => rfl)) (fun _ _ => rfl)) (pe_ix (ix_tupK K) (pv 0) pe_int (fun _ _ => rfl))) pe_int))) pss_nil)
      (pss_cons (ps_if (pt_cmpR op_eq (pv 3) pe_str (nomark _)) (pss_one (ps_ret (pe_op op_sub pe_int (pe_ix (ix_listK K) (pv 1) (pe_ix (ix_tupK K) (pv 0) pe_int (fun _ _ => rfl)) (fun _ _ => rfl))))) pss_nil)
      (pss_cons (ps_if (pt_cmpR op_eq (pv 3) pe_str (nomark _)) (pss_one (ps_ret (pe_op op_and (pe_ix (ix_listK K) (pv 1) (pe_ix (ix_tupK K) (pv 0) pe_int (fun _ _ => rfl)) (fun _ _ => rfl)) (pe_ix (ix_listK K) (pv 1) (pe_ix (ix_tupK K) (pv 0) pe_int (fun _ _ => rfl)) (fun _ _ => rfl))))) pss_nil)
      (pss_cons (ps_if (pt_cmpR op_eq (pv 3) pe_str (nomark _)) (pss_one (ps_ret (pe_op op_or (pe_ix (ix_listK K) (pv 1) (pe_ix (ix_tupK K) (pv 0) pe_int (fun _ _ => rfl)) (fun _ _ => rfl)) (pe_ix (ix_listK K) (pv 1) (pe_ix (ix_tupK K) (pv 0) pe_int (fun _ _ => rfl)) (fun _ _ => rfl))))) pss_nil)
      (pss_one (ps_ret (pe_op op_xor (pe_ix (ix_listK K) (pv 1) (pe_ix (ix_tupK K) (pv 0) pe_int (fun _ _ => rfl)) (fun _ _ => rfl)) (pe_ix (ix_listK K) (pv 1) (pe_ix (ix_tupK K) (pv 0) pe_int (fun _ _ => rfl)) (fun _ _ => rfl))))))))))), ?_⟩
  try dsimp only [cxOf, Cx.nox, Cx.wish]
  simp only [L2.start, List.map_cons, List.map_nil, List.length_cons, List.length_nil, Nat.reduceAdd, Nat.reduceSub, List.replicate_succ, List.replicate_zero, List.cons_append, List.nil_append]
  obtain ⟨hp, hb, hd, ok, nl, has, h01, h⟩ := h
  unfold RowAt at hp
  cases r with
  | fix x =>
    walk_at "ws"
    exact h
  | inn n k =>
    obtain ⟨v, hv⟩ := has n ok.1
    have hv2 : valV (wkv ws) (Sum.inr n) = some (.int v) := by rw [valV_wkv, hv]; rfl
    walk_at "ws"
    have e : gateI ws bs (.inn n k) = v / 2 ^ k % 2 := by
      show (lookW ws n).getD 0 / 2 ^ k % 2 = v / 2 ^ k % 2
      rw [hv]
      rfl
    rw [e] at h
    exact h
  | inv a =>
    walk_at "ws"
    refine w_ixL hb (bit_get ok) ?_
    walk_at "ws"
    exact h
  | bin o x y =>
    have e1 := bit_get ok.1
    have e2 := bit_get ok.2
    cases o with
    | and =>
      walk_at "ws"
      refine w_ixL hb e1 ?_
      walk_at "ws"
      refine w_ixL hb e2 ?_
      walk_at "ws"
      rw [and_01 (all01_get h01 x) (all01_get h01 y)]
      exact h
    | or =>
      walk_at "ws"
      refine w_ixL hb e1 ?_
      walk_at "ws"
      refine w_ixL hb e2 ?_
      walk_at "ws"
      rw [or_01 (all01_get h01 x) (all01_get h01 y)]
      exact h
    | xor =>
      walk_at "ws"
      refine w_ixL hb e1 ?_
      walk_at "ws"
      refine w_ixL hb e2 ?_
      walk_at "ws"
      rw [xor_01 (all01_get h01 x) (all01_get h01 y)]
      exact h
  | lat a => exact nl.elim

def sp_told (K : PySem.W.Frag) : Sp := fun vs H Q _ => ∃ (a d : Addr) (rs : List Row) (ws : List (Str × Int)) (N : Str → Prop), vs = [.ref a, .ref d] ∧ RowsL K H a rs ∧ H d = some (.dK (wkv ws)) ∧
  RowsOk N rs ∧ NoLats rs ∧ Has N ws ∧ rs.length ≤ 60000 ∧ ∀ p H', H p = none → Same H H' → H' p = some (.lst ((toldL ws rs).map V.int)) → Q (.ref p) H'
theorem ok_told (T : Top K mg) : FnOk P w K mg base CX0 2 T.a_told T.d_told ["rows", "words"] (sp_told K) := by
  refine T.f_told.ok sc_told (fun vs H Q E h => ?_) (fun cdv A outer s H vs Q E hr h => ?_)
  · obtain ⟨a, d, rs, ws, N, rfl, _⟩ := h
    rfl
  obtain ⟨a, d, rs, ws, N, rfl, h⟩ := h
  refine ⟨_, (pss_cons (ps_set (i := 2) sc_told.nd rfl (.inl rfl) (pe_lst pa_nil))
      (pss_cons (ps_for PassesOwn.never rfl (pi_list (pv 0)) (pg_name (i := 3) sc_told.nd rfl (.inl rfl))
      (pss_one (ps_expr (pe_bm PySem.F.plainAttrs_list PySem.F.slot_list_append PySem.F.type_list_append mt_append (pv 2) (pa_cons (pe_call (ok_gate_bit T) (hr.mono (by decide)) (by rfl) T.g_gate_bit T.f_gate_bit.kp T.b_gate_bit .nil pass0 (pa_cons (pv 3) (pa_cons (pv 2) (pa_cons (pv 1) pa_nil)))) pa_nil)))))
      (pss_one (ps_ret (pv 2))))), ?_⟩
  try dsimp only [cxOf, Cx.nox, Cx.wish]
  simp only [L2.start, List.map_cons, List.map_nil, List.length_cons, List.length_nil, Nat.reduceAdd, Nat.reduceSub, List.replicate_succ, List.replicate_zero, List.cons_append, List.nil_append]
  obtain ⟨⟨ps, hS, hA⟩, hd, ok, nl, has, hlen, h⟩ := h
  walk_at "ws"
  rename_i o H1 n1 s1 e1
  refine for_l (ps.map V.ref) (fun i σ' H' => ∃ y, σ' = [some (.ref a), some (.ref d), some (.ref o), y] ∧ Same H H' ∧ H' o = some (.lst ((toldL ws (rs.take i)).map V.int))) ⟨_, rfl, s1, e1⟩ (fun i σ' H' _ q => ?_) (fun i x σ' H' hx q => ?_) (fun σ' H' q => ?_)
  · obtain ⟨y, rfl, sm, e⟩ := q
    exact sm.seq hS
  · obtain ⟨y, rfl, sm, e⟩ := q
    obtain ⟨p, hp, rfl⟩ := get_map hx
    obtain ⟨r, hr', hpr⟩ := hA.get hp
    have hi := (List.getElem?_eq_some_iff.mp hr').1
    have hl : (toldL ws (rs.take i)).length = i := by rw [toldL_len, List.length_take]; omega
    walk_at "ws"
    refine ⟨p, o, d, r, _, ws, N, rfl, sm _ _ hpr, SqL.of e, sm _ _ hd, (by rw [hl]; exact ok i r hr'), nl r (List.mem_of_getElem? hr'), has, toldL_01 ws ok i, ?_⟩
    walk_at "ws"
    refine ⟨_, rfl, same_mut sm n1, ?_⟩
    rw [upd_same, take_snoc hr', toldL_snoc, List.map_append]
    rfl
  · obtain ⟨y, rfl, sm, e⟩ := q
    rw [List.length_map, hA.1, List.take_of_length_le (Nat.le_refl _)] at e
    walk_at "ws"
    exact h o H' n1 sm e

/-! numbers drawn from a cell -/
def sp_law_mixed (K : PySem.W.Frag) : Sp := fun vs H Q _ => ∃ c k : Int, vs = [.int c, .int k] ∧ Builtin.Int.intBits c ≤ 1048577 ∧ (0 ≤ k ∧ k ≤ 1000000) ∧ ∀ v : Int, 0 ≤ v → v < 2147483648 → Q (.int v) H
theorem ok_law_mixed (T : Top K mg) : FnOk P w K mg base CX0 1 T.a_law_mixed T.d_law_mixed ["_law_cell", "_law_k"] (sp_law_mixed K) := by
  refine T.f_law_mixed.ok sc_law_mixed (fun vs H Q E h => ?_) (fun cdv A outer s H vs Q E hr h => ?_)
  · obtain ⟨c, k, rfl, _⟩ := h
    rfl
  obtain ⟨c, k, rfl, h⟩ := h
  refine ⟨_, (pss_cons (ps_if (pt_cmpR op_ge (pv 0) (pe_op op_pow pe_int pe_int) (nomark _)) (pss_one (ps_ret (pe_op op_mod (pe_op op_fdivW (pe_op op_sub (pv 0) (pe_op op_pow pe_int pe_int)) (pe_op op_shl pe_int (pe_op op_mulI pe_int (pe_op op_mod (pv 1) pe_int)))) (pe_op op_shl pe_int pe_int)))) pss_nil)
      (pss_cons (ps_set (i := 2) sc_law_mixed.nd rfl (.inl rfl) (pe_op op_mod (pe_op op_add (pe_op op_add (pe_op op_mulI (pv 0) pe_int) (pe_op op_mulI (pe_op op_mulI pe_int (pv 1)) (pv 1))) (pv 1)) pe_int))
      (pss_cons (ps_set (i := 2) sc_law_mixed.nd rfl (.inl rfl) (pe_op op_mod (pe_op op_mulI (pv 2) (pv 2)) pe_int))
      (pss_one (ps_ret (pe_op op_mod (pe_op op_mulI (pv 2) pe_int) pe_int)))))), ?_⟩
  try dsimp only [cxOf, Cx.nox, Cx.wish]
  simp only [L2.start, List.map_cons, List.map_nil, List.length_cons, List.length_nil, Nat.reduceAdd, Nat.reduceSub, List.replicate_succ, List.replicate_zero, List.cons_append, List.nil_append]
  obtain ⟨hc, hk, h⟩ := h
  walk_at "ws"
  · have hp : (0 : Int) < 1 * 2 ^ (31 * (k % 60)).toNat := by
      rw [Int.one_mul]
      exact p2pos _
    refine w_I (wide_div hp (b := 2001) (by rw [abs_pow]; exact Nat.pow_lt_pow_right (by decide) (by omega)) (by decide) (by decide)) ?_
    walk_at "ws"
    have e : (1 : Int) * 2 ^ Int.toNat 31 = 2147483648 := by decide
    rw [e]
    exact h _ (Int.emod_nonneg _ (by decide)) (Int.emod_lt_of_pos _ (by decide))
  · refine h _ (Int.emod_nonneg _ (by decide)) ?_
    exact Int.lt_trans (Int.emod_lt_of_pos _ (by decide)) (by decide)
theorem use_mixed {c k : Int} {H : Hp} {Q : VK} {E : XK} (hc : Builtin.Int.intBits c ≤ 1048577) (hk : 0 ≤ k ∧ k ≤ 1000000) (h : ∀ v : Int, 0 ≤ v → v < 2147483648 → Q (.int v) H) : sp_law_mixed K ([.int c, .int k] ++ []) H Q E :=
  ⟨c, k, rfl, hc, hk, h⟩
local macro_rules | `(tactic| walk_at "w1") => `(tactic| ((with_reducible refine use_mixed ?_ ?_ ?_); (first | assumption | exact Nat.le_succ_of_le (by assumption)); omega; intro _ _ _))

def sp_law_great (K : PySem.W.Frag) : Sp := fun vs H Q _ => ∃ c k : Int, vs = [.int c, .int k] ∧ Builtin.Int.intBits c ≤ 1048577 ∧ (0 ≤ k ∧ k ≤ 100000) ∧ ∀ v : Int, Q (.int v) H
theorem ok_law_great (T : Top K mg) : FnOk P w K mg base CX0 2 T.a_law_great T.d_law_great ["_law_cell", "_law_k"] (sp_law_great K) := by
  refine T.f_law_great.ok sc_law_great (fun vs H Q E h => ?_) (fun cdv A outer s H vs Q E hr h => ?_)
  · obtain ⟨c, k, rfl, _⟩ := h
    rfl
  obtain ⟨c, k, rfl, h⟩ := h
  refine ⟨_, (pss_cons (ps_set (i := 2) sc_law_great.nd rfl (.inl rfl) (pe_op op_add (pe_op op_mulI (pv 0) pe_int) (pe_op op_mulI (pe_call (ok_law_mixed T) (hr.mono (by decide)) (by rfl) T.g_law_mixed T.f_law_mixed.kp T.b_law_mixed .nil pass0 (pa_cons (pv 0) (pa_cons (pv 1) pa_nil))) (pe_op op_pow pe_int pe_int))))
      (pss_cons (ps_set (i := 2) sc_law_great.nd rfl (.inl rfl) (pe_op op_add (pv 2) (pe_op op_mulI (pe_call (ok_law_mixed T) (hr.mono (by decide)) (by rfl) T.g_law_mixed T.f_law_mixed.kp T.b_law_mixed .nil pass0 (pa_cons (pv 0) (pa_cons (pe_op op_add (pv 1) pe_int) pa_nil))) (pe_op op_pow pe_int pe_int))))
      (pss_one (ps_ret (pe_op op_sub (pe_op op_mod (pv 2) (pe_op op_mulI pe_int (pe_op op_pow pe_int pe_int))) (pe_op op_pow pe_int pe_int)))))), ?_⟩
  try dsimp only [cxOf, Cx.nox, Cx.wish]
  simp only [L2.start, List.map_cons, List.map_nil, List.length_cons, List.length_nil, Nat.reduceAdd, Nat.reduceSub, List.replicate_succ, List.replicate_zero, List.cons_append, List.nil_append]
  obtain ⟨hc, hk, h⟩ := h
  walk_at "ws"
  exact h _
theorem use_great {c k : Int} {H : Hp} {Q : VK} {E : XK} (hc : Builtin.Int.intBits c ≤ 1048577) (hk : 0 ≤ k ∧ k ≤ 100000) (h : ∀ v : Int, Q (.int v) H) : sp_law_great K ([.int c, .int k] ++ []) H Q E :=
  ⟨c, k, rfl, hc, hk, h⟩
local macro_rules | `(tactic| walk_at "w1") => `(tactic| ((with_reducible refine use_great ?_ ?_ ?_); (first | assumption | exact Nat.le_succ_of_le (by assumption)); omega; intro _))

def sp_law_list (K : PySem.W.Frag) : Sp := fun vs H Q _ => ∃ (a b : Addr) (ns : List Int), vs = [.ref a, .ref b] ∧ H a = some (.lst (ns.map V.int)) ∧ SqL K H b (ns.map V.int) ∧ ns.length ≤ 100000 ∧ Q (.bl true) H
theorem ok_law_list (T : Top K mg) : FnOk P w K mg base CX0 2 T.a_law_list T.d_law_list ["_law_found", "_law_due"] (sp_law_list K) := by
  refine T.f_law_list.ok sc_law_list (fun vs H Q E h => ?_) (fun cdv A outer s H vs Q E hr h => ?_)
  · obtain ⟨a, b, ns, rfl, _⟩ := h
    rfl
  obtain ⟨a, b, ns, rfl, h⟩ := h
  refine ⟨_, (pss_cons (ps_if (PW.pt (pw_or (pt_not (pt_val (pe_callB (c_isiK K) (by rfl) T.z_isinstance (by decide +kernel) (pa_cons (pv 0) (pa_cons (pe_bltn (v := .ty "list") (by rfl) T.z_list (by decide +kernel) rfl) pa_nil))))) (pw_or1 (pt_cmpR op_ne (pe_callB (c_lenK K) (by rfl) T.z_len PySem.boot_len (pa_cons (pv 0) pa_nil)) (pe_callB (c_lenK K) (by rfl) T.z_len PySem.boot_len (pa_cons (pv 1) pa_nil)) (nomark _))))) (pss_one (ps_ret pe_bl)) pss_nil)
      (pss_cons (ps_for PassesOwn.never rfl (pi_range1 (by rfl) T.z_range (pa_cons (pe_callB (c_lenK K) (by rfl) T.z_len PySem.boot_len (pa_cons (pv 1) pa_nil)) pa_nil)) (pg_name (i := 2) sc_law_list.nd rfl (.inl rfl))
      (pss_one (ps_if (PW.pt (pw_or (pt_not (pt_val (pe_call (ok_law_whole T) (hr.mono (by decide)) (by rfl) T.g_law_whole T.f_law_whole.kp T.b_law_whole .nil pass0 (pa_cons (pe_ix (ix_listK K) (pv 0) (pv 2) (fun _ _ => rfl)) pa_nil)))) (pw_or1 (pt_cmpR op_ne (pe_ix (ix_listK K) (pv 0) (pv 2) (fun _ _ => rfl)) (pe_ix (ix_listK K) (pv 1) (pv 2) (fun _ _ => rfl)) (nomark _))))) (pss_one (ps_ret pe_bl)) pss_nil)))
      (pss_one (ps_ret pe_bl)))), ?_⟩
  try dsimp only [cxOf, Cx.nox, Cx.wish]
  simp only [L2.start, List.map_cons, List.map_nil, List.length_cons, List.length_nil, Nat.reduceAdd, Nat.reduceSub, List.replicate_succ, List.replicate_zero, List.cons_append, List.nil_append]
  obtain ⟨ha, hb, hl, h⟩ := h
  walk_at "ws"
  refine for_r (fun i σ' H' => ∃ y, σ' = [some (.ref a), some (.ref b), y] ∧ H' = H) ⟨_, rfl, rfl⟩ (fun i σ' H' hi q => ?_) (fun σ' H' q => ?_)
  · obtain ⟨y, rfl, e⟩ := q
    subst e
    have hi' : i < ns.length := by
      rw [List.length_map] at hi
      omega
    walk_at "ws"
    refine w_ixL (SqL.of ha) (get_int hi') ?_
    walk_at "ws"
    refine w_ixL (SqL.of ha) (get_int hi') ?_
    walk_at "ws"
    refine w_ixL hb (get_int hi') ?_
    walk_at "ws"
    exact ⟨_, rfl, rfl⟩
  · obtain ⟨y, rfl, e⟩ := q
    subst e
    walk_at "ws"
    exact h

def tagG : Option Bop → Str
  | none => "not"
  | some o => bopS o
def tagI (g : Option Bop) (x y : Int) : Int := match g with
  | none => 1 - x
  | some o => bopI o x y
def sp_law_gate_bit (K : PySem.W.Frag) : Sp := fun vs H Q _ => ∃ (g : Option Bop) (x y : Int), vs = [.str (tagG g), .int x, .int y] ∧ is01 x ∧ is01 y ∧ ∀ H', Same H H' → Q (.int (tagI g x y)) H'
theorem ok_law_gate_bit (T : Top K mg) : FnOk P w K mg base CX0 1 T.a_law_gate_bit T.d_law_gate_bit ["_law_word", "_law_one_here", "_law_two"] (sp_law_gate_bit K) := by
  refine T.f_law_gate_bit.ok sc_law_gate_bit (fun vs H Q E h => ?_) (fun cdv A outer s H vs Q E hr h => ?_)
  · obtain ⟨g, x, y, rfl, _⟩ := h
    rfl
  obtain ⟨g, x, y, rfl, h⟩ := h
  refine ⟨_, (pss_cons (ps_if (pt_cmpR op_eq (pv 0) pe_str (nomark _)) (pss_one (ps_ret (pe_ix (ix_listK K) (pe_lst (pa_cons pe_int (pa_cons pe_int pa_nil))) (pv 1) (fun _ _ => rfl)))) pss_nil)
      (pss_cons (ps_if (pt_cmpR op_eq (pv 0) pe_str (nomark _)) (pss_one (ps_ret (pe_ix (ix_listK K) (pe_ix (ix_listK K) (pe_lst (pa_cons (pe_lst (pa_cons pe_int (pa_cons pe_int pa_nil))) (pa_cons (pe_lst (pa_cons pe_int (pa_cons pe_int pa_nil))) pa_nil))) (pv 1) (fun _ _ => rfl)) (pv 2) (fun _ _ => rfl)))) pss_nil)
      (pss_cons (ps_if (pt_cmpR op_eq (pv 0) pe_str (nomark _)) (pss_one (ps_ret (pe_ix (ix_listK K) (pe_ix (ix_listK K) (pe_lst (pa_cons (pe_lst (pa_cons pe_int (pa_cons pe_int pa_nil))) (pa_cons (pe_lst (pa_cons pe_int (pa_cons pe_int pa_nil))) pa_nil))) (pv 1) (fun _ _ => rfl)) (pv 2) (fun _ _ => rfl)))) pss_nil)
      (pss_one (ps_ret (pe_ix (ix_listK K) (pe_ix (ix_listK K) (pe_lst (pa_cons (pe_lst (pa_cons pe_int (pa_cons pe_int pa_nil))) (pa_cons (pe_lst (pa_cons pe_int (pa_cons pe_int pa_nil))) pa_nil))) (pv 1) (fun _ _ => rfl)) (pv 2) (fun _ _ => rfl))))))), ?_⟩
  try dsimp only [cxOf, Cx.nox, Cx.wish]
  simp only [L2.start, List.map_cons, List.map_nil, List.length_cons, List.length_nil, Nat.reduceAdd, Nat.reduceSub, List.replicate_succ, List.replicate_zero, List.cons_append, List.nil_append]
  obtain ⟨hx, hy, h⟩ := h
  cases g with
  | none =>
    rcases hx with rfl | rfl <;> (walk_at "ws"; exact h _ (by assumption))
  | some o =>
    cases o <;> rcases hx with rfl | rfl <;> rcases hy with rfl | rfl <;> (walk_at "ws"; exact h _ ((Same.trans (by assumption) (by assumption)).trans (by assumption)))
theorem use_gate_bit {g : Option Bop} {x y : Int} {H : Hp} {Q : VK} {E : XK} (hx : is01 x) (hy : is01 y) (h : ∀ H', Same H H' → Q (.int (tagI g x y)) H') : sp_law_gate_bit K ([.str (tagG g), .int x, .int y] ++ []) H Q E := ⟨g, x, y, rfl, hx, hy, h⟩

/-- rows, what they tell, and the numbers, side by side -/
def Good (G : Hp) (a b d : Addr) (rs : List Row) (ws : List (Str × Int)) (N : Str → Prop) : Prop :=
  RowsM G a rs ∧ G b = some (.lst ((toldL ws rs).map V.int)) ∧ G d = some (.dK (wkv ws)) ∧ RowsOk N rs ∧ NoLats rs ∧ Has N ws ∧ (ws.map (·.1)).Nodup ∧ (∀ n, N n → PyData.strOk n = true)
/-- a row is put to the rows, what it tells is not yet put to what is due -/
def Half (G : Hp) (a b d : Addr) (rs : List Row) (r : Row) (ws : List (Str × Int)) (N : Str → Prop) : Prop :=
  RowsM G a (rs ++ [r]) ∧ G b = some (.lst ((toldL ws rs).map V.int)) ∧ G d = some (.dK (wkv ws)) ∧ RowsOk N (rs ++ [r]) ∧ NoLats (rs ++ [r]) ∧ Has N ws ∧ (ws.map (·.1)).Nodup ∧ (∀ n, N n → PyData.strOk n = true)
theorem Good.put {G : Hp} {a b d p : Addr} {rs : List Row} {ws : List (Str × Int)} {N : Str → Prop} {r : Row} {ps : List Addr} (g : Good G a b d rs ws N) (h1 : G a = some (.lst (ps.map V.ref))) (h2 : A2 (RowAt G) ps rs) (ne : a ≠ b) (hp : RowAt G p r) (ok : RowOk N rs.length r) (nl : noLat r) :
    Half (upd G a (.lst (ps.map V.ref ++ [.ref p]))) a b d rs r ws N := by
  obtain ⟨_, h3, h4, h5, h6, h7, h8, h9⟩ := g
  have nd : d ≠ a := fun e => by rw [e, h1] at h4; cases h4
  exact ⟨RowsM.push h1 h2 hp, by rw [upd_ne ne.symm]; exact h3, by rw [upd_ne nd]; exact h4, h5.snoc ok, h6.snoc nl, h7, h8, h9⟩
theorem Half.same {G G' : Hp} {a b d : Addr} {rs : List Row} {r : Row} {ws : List (Str × Int)} {N : Str → Prop} (s : Same G G') (g : Half G a b d rs r ws N) : Half G' a b d rs r ws N :=
  ⟨g.1.same s, s _ _ g.2.1, s _ _ g.2.2.1, g.2.2.2⟩
theorem Half.put {G : Hp} {a b d : Addr} {rs : List Row} {ws : List (Str × Int)} {N : Str → Prop} {r : Row} {v : Int} (g : Half G a b d rs r ws N) (ne : a ≠ b) (ev : v = gateI ws (toldL ws rs) r) :
    Good (upd G b (.lst ((toldL ws rs).map V.int ++ [.int v]))) a b d (rs ++ [r]) ws N := by
  obtain ⟨h1, h3, h4, h5, h6, h7, h8, h9⟩ := g
  have nb : d ≠ b := fun e => by rw [e, h3] at h4; cases h4
  refine ⟨RowsM.upd ne h3 h1, ?_, by rw [upd_ne nb]; exact h4, h5, h6, h7, h8, h9⟩
  rw [upd_same, toldL_snoc, List.map_append, ev]
  rfl
theorem Good.same {G G' : Hp} {a b d : Addr} {rs : List Row} {ws : List (Str × Int)} {N : Str → Prop} (s : Same G G') (g : Good G a b d rs ws N) : Good G' a b d rs ws N :=
  ⟨g.1.same s, s _ _ g.2.1, s _ _ g.2.2.1, g.2.2.2⟩
theorem fix_ok {x y : Int} (hx : is01 x) (hy : is01 y) (N : Str → Prop) : RowsOk N [.fix x, .fix y] ∧ NoLats [.fix x, .fix y] := by
  refine ⟨fun i r h => ?_, fun r h => ?_⟩
  · match i, h with
    | 0, h => cases h; exact hx
    | 1, h => cases h; exact hy
  · rcases List.mem_cons.mp h with e | e
    · rw [e]; exact True.intro
    · rw [List.mem_singleton.mp e]; exact True.intro
theorem inn_ok {n : Str} {i j : Nat} {N : Str → Prop} (hn : N n) (hi : i < 64) (hj : j < 64) : RowsOk N [.inn n i, .inn n j] ∧ NoLats [.inn n i, .inn n j] := by
  refine ⟨fun k r h => ?_, fun r h => ?_⟩
  · match k, h with
    | 0, h => cases h; exact ⟨hn, hi⟩
    | 1, h => cases h; exact ⟨hn, hj⟩
  · rcases List.mem_cons.mp h with e | e
    · rw [e]; exact True.intro
    · rw [List.mem_singleton.mp e]; exact True.intro
theorem two_rows {H : Hp} {p q : Addr} {r s : Row} (h1 : RowAt H p r) (h2 : RowAt H q s) : A2 (RowAt H) [p, q] [r, s] := (A2.nil.snoc h1).snoc h2
def sp_law_one (K : PySem.W.Frag) : Sp := fun vs H Q _ => ∃ c k : Int, vs = [.int c, .int k] ∧ Builtin.Int.intBits c ≤ 1048576 ∧ (0 ≤ k ∧ k ≤ 100) ∧ ∀ H', Same H H' → Q (.bl true) H'
theorem ok_law_one (T : Top K mg) : FnOk P w K mg base CX0 3 T.a_law_one T.d_law_one ["_law_cell", "_law_k"] (sp_law_one K) := by
  refine T.f_law_one.ok sc_law_one (fun vs H Q E h => ?_) (fun cdv A outer s H vs Q E hr h => ?_)
  · obtain ⟨c, k, rfl, _⟩ := h
    rfl
  obtain ⟨c, k, rfl, h⟩ := h
  refine ⟨_, (pss_cons (ps_set (i := 2) sc_law_one.nd rfl (.inl rfl) (pe_call (ok_law_mixed T) (hr.mono (by decide)) (by rfl) T.g_law_mixed T.f_law_mixed.kp T.b_law_mixed .nil pass0 (pa_cons (pv 0) (pa_cons (pv 1) pa_nil))))
      (pss_cons (ps_set (i := 3) sc_law_one.nd rfl (.inl rfl) (pe_ix (ix_listK K) (pe_lst (pa_cons pe_str (pa_cons pe_str (pa_cons pe_str (pa_cons pe_str pa_nil))))) (pe_op op_mod (pv 2) pe_int) (fun _ _ => rfl)))
      (pss_cons (ps_set (i := 4) sc_law_one.nd rfl (.inl rfl) (pe_op op_mod (pe_op op_fdiv (pv 2) pe_int) pe_int))
      (pss_cons (ps_set (i := 5) sc_law_one.nd rfl (.inl rfl) (pe_op op_mod (pe_op op_fdiv (pv 2) pe_int) pe_int))
      (pss_cons (ps_set (i := 6) sc_law_one.nd rfl (.inl rfl) (pe_lst (pa_cons (pe_tup (pa_cons pe_str (pa_cons (pv 4) pa_nil))) (pa_cons (pe_tup (pa_cons pe_str (pa_cons (pv 5) pa_nil))) pa_nil))))
      (pss_cons (ps_set (i := 7) sc_law_one.nd rfl (.inr rfl) (pe_disp (pps_cons pe_str pe_int pps_nil) (by rfl) (by rfl) (fun z => by cases z) (by decide)))
      (pss_cons (ps_set (i := 8) sc_law_one.nd rfl (.inl rfl) (pe_lst (pa_cons (pv 4) (pa_cons (pv 5) pa_nil))))
      (Evl.pss_cut (ps_if (pt_cmpR op_eq (pe_op op_mod (pe_op op_fdiv (pv 2) pe_int) pe_int) pe_int (nomark _)) (pss_cons (ps_set (i := 7) sc_law_one.nd rfl (.inr rfl) (pe_disp (pps_cons pe_str (pe_op op_sub pe_int (pe_op op_mod (pv 0) pe_int)) (pps_cons pe_str (pe_call (ok_law_great T) (hr.mono (by decide)) (by rfl) T.g_law_great T.f_law_great.kp T.b_law_great .nil pass0 (pa_cons (pv 0) (pa_cons (pv 1) pa_nil))) pps_nil)) (by rfl) (by rfl) (fun z => by cases z) (by decide)))
      (pss_cons (ps_set (i := 6) sc_law_one.nd rfl (.inl rfl) (pe_lst (pa_cons (pe_tup (pa_cons pe_str (pa_cons pe_str (pa_cons (pe_op op_mod (pe_op op_fdiv (pv 2) pe_int) pe_int) pa_nil)))) (pa_cons (pe_tup (pa_cons pe_str (pa_cons pe_str (pa_cons (pe_op op_mod (pe_op op_fdiv (pv 2) pe_int) pe_int) pa_nil)))) pa_nil))))
      (pss_one (ps_setLc (i := 8) (own := [("_law_row", 12)]) (g := gName 12) (tt := tYes) (by rfl) sc_law_one.nd rfl rfl (sw_true rfl rfl rfl (by decide +kernel)) (pi_list (pv 6)) (blkOk_by (N := ["_law_cell", "_law_k", "_law_number", "_law_word", "_law_one_here", "_law_two", "_law_rows", "_law_words", "_law_due", "_law_j", "_law_handed", "_law_kept", "_law_row"]) (sc := defScope s_law_one) (by decide +kernel)) (fun _ _ _ _ _ => (pg_name (i := 12) sc_law_one.nd rfl (.inl rfl))) (fun _ _ _ _ _ => pts_nil) (fun _ _ _ _ _ => (pe_op op_mod (pe_op op_divP (pe_dget (hu_of hr) (pv 7) pe_str (fun _ _ => rfl)) (pe_op op_shlK pe_int (pe_ix (ix_tupK K) (pv 12) pe_int (fun _ _ => rfl)))) pe_int)))))) pss_nil)
      (pss_cons (ps_for PassesOwn.never rfl (pi_range1 (by rfl) T.z_range (pa_cons (pe_op op_mod (pe_op op_fdiv (pv 2) pe_int) pe_int) pa_nil)) (pg_name (i := 9) sc_law_one.nd rfl (.inl rfl))
      (pss_cons (ps_expr (pe_bm PySem.F.plainAttrs_list PySem.F.slot_list_append PySem.F.type_list_append mt_append (pv 6) (pa_cons (pe_tup (pa_cons pe_str (pa_cons (pe_op op_mod (pe_op op_fdiv (pv 2) pe_int) pe_int) pa_nil))) pa_nil)))
      (pss_one (ps_expr (pe_bm PySem.F.plainAttrs_list PySem.F.slot_list_append PySem.F.type_list_append mt_append (pv 8) (pa_cons (pe_op op_mod (pe_op op_fdiv (pv 2) pe_int) pe_int) pa_nil))))))
      (Evl.pss_cut (ps_if (pt_cmpR op_eq (pv 3) pe_str (nomark _)) (pss_cons (ps_expr (pe_bm PySem.F.plainAttrs_list PySem.F.slot_list_append PySem.F.type_list_append mt_append (pv 6) (pa_cons (pe_tup (pa_cons pe_str (pa_cons (pe_op op_mod (pe_op op_fdiv (pv 2) pe_int) pe_int) pa_nil))) pa_nil)))
      (pss_one (ps_expr (pe_bm PySem.F.plainAttrs_list PySem.F.slot_list_append PySem.F.type_list_append mt_append (pv 8) (pa_cons (pe_call (ok_law_gate_bit T) (hr.mono (by decide)) (by rfl) T.g_law_gate_bit T.f_law_gate_bit.kp T.b_law_gate_bit .nil pass0 (pa_cons (pv 3) (pa_cons (pe_ix (ix_listK K) (pv 8) (pe_op op_mod (pe_op op_fdiv (pv 2) pe_int) pe_int) (fun _ _ => rfl)) (pa_cons pe_int pa_nil)))) pa_nil))))) (pss_cons (ps_expr (pe_bm PySem.F.plainAttrs_list PySem.F.slot_list_append PySem.F.type_list_append mt_append (pv 6) (pa_cons (pe_tup (pa_cons (pv 3) (pa_cons (pe_op op_mod (pe_op op_fdiv (pv 2) pe_int) pe_int) (pa_cons (pe_op op_mod (pe_op op_fdiv (pv 2) pe_int) pe_int) pa_nil)))) pa_nil)))
      (pss_one (ps_expr (pe_bm PySem.F.plainAttrs_list PySem.F.slot_list_append PySem.F.type_list_append mt_append (pv 8) (pa_cons (pe_call (ok_law_gate_bit T) (hr.mono (by decide)) (by rfl) T.g_law_gate_bit T.f_law_gate_bit.kp T.b_law_gate_bit .nil pass0 (pa_cons (pv 3) (pa_cons (pe_ix (ix_listK K) (pv 8) (pe_op op_mod (pe_op op_fdiv (pv 2) pe_int) pe_int) (fun _ _ => rfl)) (pa_cons (pe_ix (ix_listK K) (pv 8) (pe_op op_mod (pe_op op_fdiv (pv 2) pe_int) pe_int) (fun _ _ => rfl)) pa_nil)))) pa_nil))))))
      (pss_cons (ps_set (i := 10) sc_law_one.nd rfl (.inl rfl) (pe_callTy (c_listK K) (by rfl) T.z_list (by decide +kernel) (pa_cons (pv 6) pa_nil)))
      (pss_cons (ps_set (i := 11) sc_law_one.nd rfl (.inl rfl) (pe_callTy c_dictD (by rfl) T.z_dict (by decide +kernel) (pa_cons (pv 7) pa_nil)))
      (pss_one (ps_ret (pe_and (pe_call (ok_law_list T) (hr.mono (by decide)) (by rfl) T.g_law_list T.f_law_list.kp T.b_law_list .nil pass0 (pa_cons (pe_call (ok_told T) (hr.mono (by decide)) (by rfl) T.g_told T.f_told.kp T.b_told .nil pass0 (pa_cons (pv 10) (pa_cons (pv 7) pa_nil))) (pa_cons (pv 8) pa_nil))) (pe_and (pe_cmpR (op_eqD hr.units) (pv 10) (pv 6) (nomark _)) (pe_one (pe_cmpR (op_eq_dictA hr.units0) (pv 7) (pv 11) (nomark _))))))))))))))))))), ?_⟩
  try dsimp only [cxOf, Cx.nox, Cx.wish]
  simp only [L2.start, List.map_cons, List.map_nil, List.length_cons, List.length_nil, Nat.reduceAdd, Nat.reduceSub, List.replicate_succ, List.replicate_zero, List.cons_append, List.nil_append]
  obtain ⟨hc, hk, h⟩ := h
  walk_at "ws"
  rename_i v v0 v1 p1 H1 n1 s1 e1
  obtain ⟨g, hg⟩ : ∃ g, atI [V.str "not", V.str "and", V.str "or", V.str "xor"] (v % 4) = some (V.str (tagG g)) := by
    rcases (show v % 4 = 0 ∨ v % 4 = 1 ∨ v % 4 = 2 ∨ v % 4 = 3 by omega) with e | e | e | e <;> rw [e]
    · exact ⟨none, rfl⟩
    · exact ⟨some .and, rfl⟩
    · exact ⟨some .or, rfl⟩
    · exact ⟨some .xor, rfl⟩
  refine w_ixL (SqL.of e1) hg ?_
  walk_at "ws"
  rename_i p2 H2 n2 s2 e2 p3 H3 n3 s3 e3 p4 H4 n4 s4 e4 p5 H5 n5 s5 e5
  refine w_DspE [("a", 0)] (by decide) e5 rfl (by decide) fun H6 e6 f6 => ?_
  walk_at "ws"
  rename_i p7 H7 n7 s7 e7
  have s56 : Same H4 H6 := f6 H4 s5 n5
  have sH4 : Same H H4 := ((s1.trans s2).trans s3).trans s4
  have sH7 : Same H H7 := (sH4.trans s56).trans s7
  have h1 : is01 (v / 4 % 2) := by unfold is01; omega
  have h2 : is01 (v / 8 % 2) := by unfold is01; omega
  generalize v / 4 % 2 = x at *
  generalize v / 8 % 2 = y0 at *
  refine w_cut (fun σ' G => ∃ (a b d : Addr) (rs : List Row) (ws : List (Str × Int)) (N : Str → Prop) (z : Option V), σ' = [some (.int c), some (.int k), some (.int v), some (.str (tagG g)), some (.int x), some (.int y0), some (.ref a), some (.ref d), some (.ref b), none, none, none, z] ∧
    Same H G ∧ H a = none ∧ H b = none ∧ a ≠ b ∧ Good G a b d rs ws N ∧ rs.length = 2) ?_ ?_
  · walk_at "ws"
    · rename_i ev p8 H8 n8 s8 e8 gr
      have nd : (([("b", 3 - c % 7), ("bb", gr)] : List (Str × Int)).map (·.1)).Nodup := by
        show List.Nodup (["b", "bb"] : List Str)
        decide +kernel
      have hbb : lookW [("b", 3 - c % 7), ("bb", gr)] "bb" = some gr := (lookW_skip (by decide +kernel)).trans lookW_hit
      refine w_DspE [("b", 3 - c % 7), ("bb", gr)] nd e8 rfl (by exact Nat.le_of_ble_eq_true rfl) fun H9 e9 f9 => ?_
      walk_at "ws"
      rename_i q1 G1 m1 t1 g1 q2 G2 m2 t2 g2 q3 G3 m3 t3 g3
      have s9 : Same H H9 := f9 H (sH7.trans s8) (sH7.free n8)
      have i0 : 0 ≤ v / 32 % 64 := by omega
      have i1 : v / 32 % 64 < 64 := by omega
      have j0 : 0 ≤ v / 2048 % 64 := by omega
      have j1 : v / 2048 % 64 < 64 := by omega
      generalize v / 32 % 64 = ki at *
      generalize v / 2048 % 64 = kj at *
      obtain ⟨ni, rfl⟩ := Int.eq_ofNat_of_zero_le i0
      obtain ⟨nj, rfl⟩ := Int.eq_ofNat_of_zero_le j0
      have ri : RowAt G3 q1 (.inn "bb" ni) := t3 _ _ (t2 _ _ g1)
      have rj : RowAt G3 q2 (.inn "bb" nj) := t3 _ _ g2
      have ed : G3 p8 = some (.dK (wkv [("b", 3 - c % 7), ("bb", gr)])) := t3 _ _ (t2 _ _ (t1 _ _ e9))
      have egr : valV (wkv [("b", 3 - c % 7), ("bb", gr)]) (Sum.inr "bb") = some (.int gr) := by
        rw [valV_wkv, hbb]
        rfl
      have ok := inn_ok (n := "bb") (i := ni) (j := nj) (N := fun n => n = "bb") rfl (by omega) (by omega)
      refine lc_l [.ref q1, .ref q2] [.int (gr / 2 ^ ni % 2), .int (gr / 2 ^ nj % 2)] rfl (SqL.of g3) (by exact Nat.le_of_ble_eq_true rfl) (fun x => rfl) (fun i x y H' Q' hx hy sm q => ?_) (fun p H' n' s' e' => ?_)
      · match i, hx, hy with
        | 0, hx, hy =>
          cases hx
          cases hy
          have r1 := sm _ _ ri
          have r2 := sm _ _ ed
          unfold rowV at r1
          walk_at "ws"
          exact q
        | 1, hx, hy =>
          cases hx
          cases hy
          have r1 := sm _ _ rj
          have r2 := sm _ _ ed
          unfold rowV at r1
          walk_at "ws"
          exact q
      · walk_at "ws"
        have sG3 : Same H G3 := ((s9.trans t1).trans t2).trans t3
        refine ⟨q3, p, p8, [.inn "bb" ni, .inn "bb" nj], [("b", 3 - c % 7), ("bb", gr)], fun n => n = "bb", _, rfl, sG3.trans s', ((s9.trans t1).trans t2).free m3, sG3.free n', ?_, ?_, rfl⟩
        · intro e
          rw [← e, g3] at n'
          cases n'
        · refine ⟨⟨[q1, q2], s' _ _ g3, two_rows (s' _ _ ri) (s' _ _ rj)⟩, e', s' _ _ ed, ok.1, ok.2, ?_, nd, ?_⟩
          · rintro n rfl
            exact ⟨gr, hbb⟩
          · rintro n rfl
            decide +kernel
    · refine ⟨p4, p7, p5, [.fix x, .fix y0], [("a", 0)], fun _ => False, _, rfl, sH7, ((s1.trans s2).trans s3).free n4, (sH4.trans s56).free n7, ?_, ?_, rfl⟩
      · intro e
        rw [← e, s56 _ _ e4] at n7
        cases n7
      · have s47 : Same H4 H7 := s56.trans s7
        refine ⟨⟨[p2, p3], s47 _ _ e4, two_rows (s47 _ _ (s4 _ _ (s3 _ _ e2))) (s47 _ _ (s4 _ _ e3))⟩, e7, s7 _ _ e6, (fix_ok h1 h2 _).1, (fix_ok h1 h2 (fun _ => False)).2, fun n z => z.elim, by decide, fun n z => z.elim⟩
  rintro σ1 G ⟨a, b, d, rs, ws, N, z, rfl, sG, na, nb, nab, gd, hl⟩
  walk_at "ws"
  have hb3 : is01 (v / 256 % 2) := by unfold is01; omega
  refine for_r (fun i σ' G' => ∃ (rs : List Row) (y : Option V), σ' = [some (.int c), some (.int k), some (.int v), some (.str (tagG g)), some (.int x), some (.int y0), some (.ref a), some (.ref d), some (.ref b), y, none, none, z] ∧
    Same H G' ∧ Good G' a b d rs ws N ∧ 2 ≤ rs.length ∧ rs.length ≤ 2 + i) ⟨rs, _, rfl, sG, gd, by omega, by omega⟩ (fun i σ' G' hi p => ?_) (fun σ' G' p => ?_)
  · obtain ⟨rs, y, rfl, sG', gd, l1, l2⟩ := p
    have hi3 : i < 3 := by omega
    obtain ⟨ps, ga, gA⟩ := id gd.1
    have gl := gA.1
    have gb := gd.2.1
    have tl := toldL_len ws rs
    walk_at "wk"
    rename_i p8 G8 n8 s8 e8
    have hf := (gd.same s8).put (s8 _ _ ga) (gA.mono fun _ _ e => s8 _ _ e) nab (r := .fix (v / 256 % 2)) e8 hb3 True.intro
    refine ⟨rs ++ [.fix (v / 256 % 2)], _, rfl, same_mut (same_mut (sG'.trans s8) na) nb, by refine hf.put nab ?_; rfl, by rw [List.length_append]; omega, ?_⟩
    rw [List.length_append, List.length_singleton]
    omega
  obtain ⟨rs, y, rfl, sG', gd, l1, l2⟩ := p
  have lrs : rs.length < 10 := by omega
  have tl := toldL_len ws rs
  have i5 : is01 (v / 512 % 2) := by unfold is01; omega
  have i6 : is01 (v / 1024 % 2) := by unfold is01; omega
  have hix : ∀ k : Int, is01 k → ∃ n : Nat, k = (n : Int) ∧ n < rs.length := fun k hk => by
    rcases hk with rfl | rfl
    · exact ⟨0, rfl, by omega⟩
    · exact ⟨1, rfl, by omega⟩
  have bits := toldL_01 ws gd.2.2.2.1 rs.length
  rw [List.take_of_length_le (Nat.le_refl _)] at bits
  refine w_cut (fun σ' G' => ∃ (rs : List Row), σ' = [some (.int c), some (.int k), some (.int v), some (.str (tagG g)), some (.int x), some (.int y0), some (.ref a), some (.ref d), some (.ref b), y, none, none, z] ∧
    Same H G' ∧ Good G' a b d rs ws N ∧ rs.length < 11) ?_ ?_
  · obtain ⟨m5, h5, b5⟩ := hix _ i5
    obtain ⟨m6, h6, b6⟩ := hix _ i6
    have q5 := bit_get (bs := toldL ws rs) (a := m5) (by omega)
    have q6 := bit_get (bs := toldL ws rs) (a := m6) (by omega)
    obtain ⟨ps, ga, gA⟩ := id gd.1
    have gl := gA.1
    have gb := gd.2.1
    cases g with
    | none =>
      simp only [tagG]
      walk_at "wk"
      rename_i p8 G8 n8 s8 e8
      rw [h5] at e8
      have hf := (gd.same s8).put (s8 _ _ ga) (gA.mono fun _ _ e => s8 _ _ e) nab (r := .inv m5) e8 b5 True.intro
      refine w_ixL (SqL.of hf.2.1) (by rw [h5]; exact q5) ?_
      walk_at "wk"
      refine use_gate_bit (g := none) (all01_get bits _) (.inl rfl) fun G9 s9 => ?_
      have hf9 := hf.same s9
      have gb9 := hf9.2.1
      walk_at "wk"
      refine ⟨rs ++ [.inv m5], rfl, same_mut ((same_mut (sG'.trans s8) na).trans s9) nb, by refine hf9.put nab ?_; rfl, ?_⟩
      rw [List.length_append, List.length_singleton]
      omega
    | some o =>
      simp only [tagG]
      have hne : decide (bopS o = "not") = false := by cases o <;> decide +kernel
      walk_at "wk"
      refine w_itS0 hne ?_
      walk_at "wk"
      rename_i p8 G8 n8 s8 e8
      rw [h5, h6] at e8
      have hf := (gd.same s8).put (s8 _ _ ga) (gA.mono fun _ _ e => s8 _ _ e) nab (r := .bin o m5 m6) e8 ⟨b5, b6⟩ True.intro
      refine w_ixL (SqL.of hf.2.1) (by rw [h5]; exact q5) ?_
      walk_at "wk"
      refine w_ixL (SqL.of hf.2.1) (by rw [h6]; exact q6) ?_
      walk_at "wk"
      refine use_gate_bit (g := some o) (all01_get bits _) (all01_get bits _) fun G9 s9 => ?_
      have hf9 := hf.same s9
      have gb9 := hf9.2.1
      walk_at "wk"
      refine ⟨rs ++ [.bin o m5 m6], rfl, same_mut ((same_mut (sG'.trans s8) na).trans s9) nb, by refine hf9.put nab ?_; rfl, ?_⟩
      rw [List.length_append, List.length_singleton]
      omega
  rintro σ1 G ⟨rs, rfl, sG', gd, l2⟩
  obtain ⟨ps, ga, gA⟩ := id gd.1
  have gl := gA.1
  have gb := gd.2.1
  have gdd := gd.2.2.1
  have tl := toldL_len ws rs
  walk_at "wk"
  rename_i p8 G8 n8 s8 e8 p9 G9 n9 s9 e9
  refine ⟨p8, d, rs, ws, N, rfl, ⟨ps, SqL.of (s9 _ _ e8), gA.mono fun _ _ e => s9 _ _ (s8 _ _ e)⟩, s9 _ _ (s8 _ _ gdd), gd.2.2.2.1, gd.2.2.2.2.1, gd.2.2.2.2.2.1, by omega, fun q G10 m10 s10 e10 => ?_⟩
  walk_at "wk"
  refine ⟨q, b, _, rfl, e10, SqL.of (s10 _ _ (s9 _ _ (s8 _ _ gb))), by omega, ?_⟩
  walk_at "wk"
  have s810 : Same G G10 := (s8.trans s9).trans s10
  have nm : ∀ r ∈ rs, NmOk r := fun r hr => by
    cases r with
    | inn n j =>
      obtain ⟨i, hi, e⟩ := List.getElem_of_mem hr
      have := gd.2.2.2.1 i _ (by rw [List.getElem?_eq_getElem hi, e])
      exact gd.2.2.2.2.2.2.2 n this.1
    | _ => exact True.intro
  refine w_eqSame (.list (rs.map rowD)) (.lst (SqL.of (s10 _ _ (s9 _ _ e8))) (dp_rows (gA.mono fun _ _ e => s810 _ _ e))) (.lst (SqL.of (s810 _ _ ga)) (dp_rows (gA.mono fun _ _ e => s810 _ _ e))) (shaped_rows nm) ?_
  walk_at "wk"
  refine w_eqDict (s810 _ _ gdd) (s10 _ _ e9) gd.2.2.2.2.2.2.1 ?_
  walk_at "wk"
  exact h _ (sG'.trans s810)
def sp_law (K : PySem.W.Frag) : Sp := fun vs H Q _ => ∃ (a : Addr) (ns : List Int), vs = [.ref a] ∧ SqL K H a (ns.map V.int) ∧ ns.length ≤ 63 ∧ (∀ z ∈ ns, Builtin.Int.intBits z ≤ 1048576) ∧ ∀ H', Q (.bl true) H'
theorem ok_law (T : Top K mg) : FnOk P w K mg base CX0 4 T.a_law T.d_law ["_law_script"] (sp_law K) := by
  refine T.f_law.ok sc_law (fun vs H Q E h => ?_) (fun cdv A outer s H vs Q E hr h => ?_)
  · obtain ⟨a, ns, rfl, _⟩ := h
    rfl
  obtain ⟨a, ns, rfl, h⟩ := h
  refine ⟨_, (pss_cons (ps_set (i := 1) sc_law.nd rfl (.inl rfl) (pe_op op_cat (pe_slice sl_list (pv 0) po_none (po_some pe_int)) (pe_lst (pa_cons pe_int pa_nil))))
      (pss_cons (ps_for PassesOwn.never rfl (pi_range1 (by rfl) T.z_range (pa_cons (pe_callB (c_lenK K) (by rfl) T.z_len PySem.boot_len (pa_cons (pv 1) pa_nil)) pa_nil)) (pg_name (i := 2) sc_law.nd rfl (.inl rfl))
      (pss_one (ps_if (pt_not (pt_val (pe_call (ok_law_one T) (hr.mono (by decide)) (by rfl) T.g_law_one T.f_law_one.kp T.b_law_one .nil pass0 (pa_cons (pe_ix (ix_listK K) (pv 1) (pv 2) (fun _ _ => rfl)) (pa_cons (pv 2) pa_nil))))) (pss_one (ps_ret pe_bl)) pss_nil)))
      (pss_one (ps_ret pe_bl)))), ?_⟩
  try dsimp only [cxOf, Cx.nox, Cx.wish]
  simp only [L2.start, List.map_cons, List.map_nil, List.length_cons, List.length_nil, Nat.reduceAdd, Nat.reduceSub, List.replicate_succ, List.replicate_zero, List.cons_append, List.nil_append]
  obtain ⟨hS, hlen, hb, h⟩ := h
  have hb := cells_bits hb
  have hcl := cells_len ns
  walk_at "ws"
  · exact Nat.le_trans (Nat.add_le_add_right (cutV_le _ _ _ (by rw [List.length_map]; exact hlen)) 1) (by decide)
  rename_i l1 H1 n1 s1 e1 p2 H2 n2 s2 e2
  rw [cells_eq]
  intro l H3 n3 s3 e3
  walk_at "ws"
  refine for_r (fun i σ' H' => ∃ y2, σ' = [some (.ref a), some (.ref l), y2] ∧ Same H3 H') ⟨_, rfl, Same.refl _⟩ (fun i σ' H' hi p => ?_) (fun σ' H' p => ?_)
  · obtain ⟨y2, rfl, sm⟩ := p
    have hi : i < (cells ns).length := by
      rw [List.length_map] at hi
      omega
    walk_at "ws"
    refine w_ixL (sm.seq (SqL.of e3)) (get_int hi) ?_
    walk_at "ws"
    refine ⟨_, _, rfl, hb _ (List.getElem_mem hi), by omega, fun G sG => ?_⟩
    walk_at "ws"
    exact ⟨_, rfl, sm.trans sG⟩
  · walk_at "ws"
    exact h _
end
theorem end_sp_law {K : PySem.W.Frag} {H : Hp} {a : Addr} {ns : List Int} (hl : ns.length ≤ 63) (hb : ∀ z ∈ ns, Builtin.Int.intBits z ≤ 1048576) (_ : Only H) (hS : SqL K H a (ns.map V.int)) : sp_law K [.ref a] H (fun v _ => v = .bl true) fun _ _ _ => False :=
  ⟨a, ns, rfl, hS, hl, hb, fun _ => rfl⟩
theorem all_mk {l : PySem.W.OpenLaw} {w : World} {K : PySem.W.Frag} {h : Heap} {mg : Str → Option Value} {fa ha0 ha1 ha2 ha3 ha4 ha5 ha6 ha7 ha8 : Addr} (X : K.In h) (G : h.Ns mainGlobals mg) (hfa : mg "law" = some (.ref fa))
    {od0 an0 od1 an1 od2 an2 od3 an3 od4 an4 od5 an5 od6 an6 od7 an7 od8 an8 : Option Addr} {shl0 shl1 shl2 shl3 shl4 shl5 shl6 shl7 shl8 : Array (Option Value)} {oc0 kV0 dc0 pm0 cd0 ct0 oc1 kV1 dc1 pm1 cd1 ct1 oc2 kV2 dc2 pm2 cd2 ct2 oc3 kV3 dc3 pm3 cd3 ct3 oc4 kV4 dc4 pm4 cd4 ct4 oc5 kV5 dc5 pm5 cd5 ct5 oc6 kV6 dc6 pm6 cd6 ct6 oc7 kV7 dc7 pm7 cd7 ct7 oc8 kV8 dc8 pm8 cd8 ct8 : Value}
    (hg0 : PySem.W.nsIn K mainGlobals "gate_bit" = some (some (.ref ha0)))
    (hl0 : K.lookup ha0 = some ⟨oc0, od0, .func (PySem.W.fnOf "gate_bit" "gate_bit" (defArgs s_gate_bit) (defBody s_gate_bit) (defScope s_gate_bit) .none kV0 dc0 pm0 an0 cd0 ct0), shl0⟩)
    (hk0 : PySem.W.codeIn K cd0 "gate_bit" = true)
    (hp0 : PySem.W.keepIn K (.ref ha0) = true)
    (hg1 : PySem.W.nsIn K mainGlobals "told" = some (some (.ref ha1)))
    (hl1 : K.lookup ha1 = some ⟨oc1, od1, .func (PySem.W.fnOf "told" "told" (defArgs s_told) (defBody s_told) (defScope s_told) .none kV1 dc1 pm1 an1 cd1 ct1), shl1⟩)
    (hk1 : PySem.W.codeIn K cd1 "told" = true)
    (hp1 : PySem.W.keepIn K (.ref ha1) = true)
    (hg2 : PySem.W.nsIn K mainGlobals "_law_whole" = some (some (.ref ha2)))
    (hl2 : K.lookup ha2 = some ⟨oc2, od2, .func (PySem.W.fnOf "_law_whole" "_law_whole" (defArgs s_law_whole) (defBody s_law_whole) (defScope s_law_whole) .none kV2 dc2 pm2 an2 cd2 ct2), shl2⟩)
    (hk2 : PySem.W.codeIn K cd2 "_law_whole" = true)
    (hp2 : PySem.W.keepIn K (.ref ha2) = true)
    (hg3 : PySem.W.nsIn K mainGlobals "_law_mixed" = some (some (.ref ha3)))
    (hl3 : K.lookup ha3 = some ⟨oc3, od3, .func (PySem.W.fnOf "_law_mixed" "_law_mixed" (defArgs s_law_mixed) (defBody s_law_mixed) (defScope s_law_mixed) .none kV3 dc3 pm3 an3 cd3 ct3), shl3⟩)
    (hk3 : PySem.W.codeIn K cd3 "_law_mixed" = true)
    (hp3 : PySem.W.keepIn K (.ref ha3) = true)
    (hg4 : PySem.W.nsIn K mainGlobals "_law_great" = some (some (.ref ha4)))
    (hl4 : K.lookup ha4 = some ⟨oc4, od4, .func (PySem.W.fnOf "_law_great" "_law_great" (defArgs s_law_great) (defBody s_law_great) (defScope s_law_great) .none kV4 dc4 pm4 an4 cd4 ct4), shl4⟩)
    (hk4 : PySem.W.codeIn K cd4 "_law_great" = true)
    (hp4 : PySem.W.keepIn K (.ref ha4) = true)
    (hg5 : PySem.W.nsIn K mainGlobals "_law_list" = some (some (.ref ha5)))
    (hl5 : K.lookup ha5 = some ⟨oc5, od5, .func (PySem.W.fnOf "_law_list" "_law_list" (defArgs s_law_list) (defBody s_law_list) (defScope s_law_list) .none kV5 dc5 pm5 an5 cd5 ct5), shl5⟩)
    (hk5 : PySem.W.codeIn K cd5 "_law_list" = true)
    (hp5 : PySem.W.keepIn K (.ref ha5) = true)
    (hg6 : PySem.W.nsIn K mainGlobals "_law_gate_bit" = some (some (.ref ha6)))
    (hl6 : K.lookup ha6 = some ⟨oc6, od6, .func (PySem.W.fnOf "_law_gate_bit" "_law_gate_bit" (defArgs s_law_gate_bit) (defBody s_law_gate_bit) (defScope s_law_gate_bit) .none kV6 dc6 pm6 an6 cd6 ct6), shl6⟩)
    (hk6 : PySem.W.codeIn K cd6 "_law_gate_bit" = true)
    (hp6 : PySem.W.keepIn K (.ref ha6) = true)
    (hg7 : PySem.W.nsIn K mainGlobals "_law_one" = some (some (.ref ha7)))
    (hl7 : K.lookup ha7 = some ⟨oc7, od7, .func (PySem.W.fnOf "_law_one" "_law_one" (defArgs s_law_one) (defBody s_law_one) (defScope s_law_one) .none kV7 dc7 pm7 an7 cd7 ct7), shl7⟩)
    (hk7 : PySem.W.codeIn K cd7 "_law_one" = true)
    (hp7 : PySem.W.keepIn K (.ref ha7) = true)
    (hg8 : PySem.W.nsIn K mainGlobals "law" = some (some (.ref ha8)))
    (hl8 : K.lookup ha8 = some ⟨oc8, od8, .func (PySem.W.fnOf "law" "law" (defArgs s_law) (defBody s_law) (defScope s_law) .none kV8 dc8 pm8 an8 cd8 ct8), shl8⟩)
    (hk8 : PySem.W.codeIn K cd8 "law" = true)
    (hp8 : PySem.W.keepIn K (.ref ha8) = true)
    (z_bool : PySem.W.nsIn K mainGlobals "bool" = some none)
    (z_dict : PySem.W.nsIn K mainGlobals "dict" = some none)
    (z_int : PySem.W.nsIn K mainGlobals "int" = some none)
    (z_isinstance : PySem.W.nsIn K mainGlobals "isinstance" = some none)
    (z_len : PySem.W.nsIn K mainGlobals "len" = some none)
    (z_list : PySem.W.nsIn K mainGlobals "list" = some none)
    (z_range : PySem.W.nsIn K mainGlobals "range" = some none) :
    ∃ fd : FuncData, (∀ (s : Shared) (v : Value), BindsTo s fd ⟨[v], []⟩ [("_law_script", v)]) ∧ ∀ base : Heap, K.In base → base.Ns mainGlobals mg → FnOk l.prog w K mg base CX0 4 fa fd ["_law_script"] (sp_law K) := by
  have e := hfa.symm.trans (PySem.W.mg_of X G hg8)
  cases e
  have F0 := fun_mk (st := s_gate_bit) hl0 hk0 hp0
  have B0 := F0.binds (ps := ["row", "bits", "words"]) fun _ _ _ _ _ _ us hl => match us, hl with | [_, _, _], _ => rfl
  have F1 := fun_mk (st := s_told) hl1 hk1 hp1
  have B1 := F1.binds (ps := ["rows", "words"]) fun _ _ _ _ _ _ us hl => match us, hl with | [_, _], _ => rfl
  have F2 := fun_mk (st := s_law_whole) hl2 hk2 hp2
  have B2 := F2.binds (ps := ["_law_found"]) fun _ _ _ _ _ _ us hl => match us, hl with | [_], _ => rfl
  have F3 := fun_mk (st := s_law_mixed) hl3 hk3 hp3
  have B3 := F3.binds (ps := ["_law_cell", "_law_k"]) fun _ _ _ _ _ _ us hl => match us, hl with | [_, _], _ => rfl
  have F4 := fun_mk (st := s_law_great) hl4 hk4 hp4
  have B4 := F4.binds (ps := ["_law_cell", "_law_k"]) fun _ _ _ _ _ _ us hl => match us, hl with | [_, _], _ => rfl
  have F5 := fun_mk (st := s_law_list) hl5 hk5 hp5
  have B5 := F5.binds (ps := ["_law_found", "_law_due"]) fun _ _ _ _ _ _ us hl => match us, hl with | [_, _], _ => rfl
  have F6 := fun_mk (st := s_law_gate_bit) hl6 hk6 hp6
  have B6 := F6.binds (ps := ["_law_word", "_law_one_here", "_law_two"]) fun _ _ _ _ _ _ us hl => match us, hl with | [_, _, _], _ => rfl
  have F7 := fun_mk (st := s_law_one) hl7 hk7 hp7
  have B7 := F7.binds (ps := ["_law_cell", "_law_k"]) fun _ _ _ _ _ _ us hl => match us, hl with | [_, _], _ => rfl
  have F8 := fun_mk (st := s_law) hl8 hk8 hp8
  have B8 := F8.binds (ps := ["_law_script"]) fun _ _ _ _ _ _ us hl => match us, hl with | [_], _ => rfl
  let T : Top K mg := ⟨ha0,
    _,
    F0,
    B0,
    PySem.W.mg_of X G hg0,
    ha1,
    _,
    F1,
    B1,
    PySem.W.mg_of X G hg1,
    ha2,
    _,
    F2,
    B2,
    PySem.W.mg_of X G hg2,
    ha3,
    _,
    F3,
    B3,
    PySem.W.mg_of X G hg3,
    ha4,
    _,
    F4,
    B4,
    PySem.W.mg_of X G hg4,
    ha5,
    _,
    F5,
    B5,
    PySem.W.mg_of X G hg5,
    ha6,
    _,
    F6,
    B6,
    PySem.W.mg_of X G hg6,
    ha7,
    _,
    F7,
    B7,
    PySem.W.mg_of X G hg7,
    fa,
    _,
    F8,
    B8,
    PySem.W.mg_of X G hg8,
    PySem.W.mg_none_of X G z_bool,
    PySem.W.mg_none_of X G z_dict,
    PySem.W.mg_none_of X G z_int,
    PySem.W.mg_none_of X G z_isinstance,
    PySem.W.mg_none_of X G z_len,
    PySem.W.mg_none_of X G z_list,
    PySem.W.mg_none_of X G z_range⟩
  exact ⟨T.d_law, fun s v => .of_eq rfl, fun base _ _ => ok_law T⟩
end Dpr
open PySem PySem.W PyProof.Rows
set_option maxHeartbeats 0 in
theorem PySem.Challenge.cw_dotpress_k06_one_gate_holds : PySem.Challenge.rw_dotpress_k06_one_gate.Holds := by
  w_on; o_law; k_head; (case hw => w_witness2)
  k_fill
  refine L2.walk_ofB (l := PySem.Challenge.rw_dotpress_k06_one_gate) (n := 63) (k := 4) (x := "_law_script") (CX := fun _ => L2.CX0) (sp := fun w => Dpr.sp_law _) rfl (by decide) rfl ⟨rfl, by decide, by decide⟩ (fun w h Y => PySem.W.kIn_of Y) ?F (fun w H a ns hl hb hO hS => Dpr.end_sp_law hl hb hO hS) (fun _ _ _ _ _ h => h)
  case F =>
    intro w mg fa h KX G hmg
    refine' Dpr.all_mk KX G hmg ?hg0 ?hl0 ?hk0 ?hp0 ?hg1 ?hl1 ?hk1 ?hp1 ?hg2 ?hl2 ?hk2 ?hp2 ?hg3 ?hl3 ?hk3 ?hp3 ?hg4 ?hl4 ?hk4 ?hp4 ?hg5 ?hl5 ?hk5 ?hp5 ?hg6 ?hl6 ?hk6 ?hp6 ?hg7 ?hl7 ?hk7 ?hp7 ?hg8 ?hl8 ?hk8 ?hp8 ?z_bool ?z_dict ?z_int ?z_isinstance ?z_len ?z_list ?z_range
    (case hg0 => k_is)
    (case hl0 => k_is)
    (case hk0 => k_is)
    (case hp0 => k_is)
    (case hg1 => k_is)
    (case hl1 => k_is)
    (case hk1 => k_is)
    (case hp1 => k_is)
    (case hg2 => k_is)
    (case hl2 => k_is)
    (case hk2 => k_is)
    (case hp2 => k_is)
    (case hg3 => k_is)
    (case hl3 => k_is)
    (case hk3 => k_is)
    (case hp3 => k_is)
    (case hg4 => k_is)
    (case hl4 => k_is)
    (case hk4 => k_is)
    (case hp4 => k_is)
    (case hg5 => k_is)
    (case hl5 => k_is)
    (case hk5 => k_is)
    (case hp5 => k_is)
    (case hg6 => k_is)
    (case hl6 => k_is)
    (case hk6 => k_is)
    (case hp6 => k_is)
    (case hg7 => k_is)
    (case hl7 => k_is)
    (case hk7 => k_is)
    (case hp7 => k_is)
    (case hg8 => k_is)
    (case hl8 => k_is)
    (case hk8 => k_is)
    (case hp8 => k_is)
    (case z_bool => k_is)
    (case z_dict => k_is)
    (case z_int => k_is)
    (case z_isinstance => k_is)
    (case z_len => k_is)
    (case z_list => k_is)
    (case z_range => k_is)


