import PyProof.Rows.All
import Wide.All
import OpenK.AllK
import Wide.FinOn
import HandS.ForMost
import HandS.IsInst
import HandS.WideBits
import HandS.Wide
import HandS.EndBits
import HandS.Evl
import HandS.More
import HandS.DictComp
import HandS.RevRange
import HandS.DeepEq
import HandS.ListEq
import HandS.Deep
import HandS.ForExc
import HandS.ExcIs
import PySem.Challenge.RW_dotpress_k21_three_dots_pressed
set_option Elab.async false
set_option linter.all false
set_option maxRecDepth 100000
set_option maxHeartbeats 4000000


namespace Dpr
open PySem PySem.Spec PyProof.Rows L2
/-! ### steps of a reading, one a construct -/
section
variable {K : PySem.W.Frag} {D : Ends} {σ : L2.St} {H : Hp} {Q : VK} {QB : Bool → Hp → Prop} {QA : List V → Hp → Prop} {ta tb tc te : TE} {t u : TS} {c : TT} {g : TG} {r r' : R2} {v x y : V}
theorem w_seq (h : t { D with nx := u D } σ H) : tSeq t u D σ H := h
theorem w_cut (M : L2.St → Hp → Prop) (h : t { D with nx := M } σ H) (k : ∀ σ' H', M σ' H' → u D σ' H') : Evl.tCut t u D σ H := ⟨M, h, k⟩
theorem w_asg {i : Nat} (h : te σ H fun v H1 => D.nx (σ.set i (some v)) H1) : tAsg te (gName i) D σ H := h
theorem w_asgG (h : te σ H fun v H1 => g v σ H1 D.nx) : tAsg te g D σ H := h
theorem w_drop (h : te σ H fun _ H1 => D.nx σ H1) : tDrop te D σ H := h
theorem w_ret (h : te σ H D.rt) : tRet te D σ H := h
theorem w_retN (h : D.rt .non H) : tRetN D σ H := h
theorem w_next (h : D.nx σ H) : tNext D σ H := h
theorem w_cont (h : D.ct σ H) : tCont D σ H := h
theorem w_brk (h : D.bk σ H) : tBreak D σ H := h
theorem w_if (h : c σ H fun b H1 => if b = true then t D σ H1 else u D σ H1) : tIfS c t u D σ H := h
theorem w_aug {i : Nat} {ti : TIp} (hx : σ[i]? = some (some x)) (h : te σ H fun y H1 => ti x y H1 fun z H2 => D.nx (σ.set i (some z)) H2) : tAug i te ti D σ H := ⟨x, hx, h⟩
theorem w_ipI {f : Int → Int → Int} {i j : Int} (h : Q (.int (f i j)) H) : ipI f (.int i) (.int j) H Q := ⟨i, j, rfl, rfl, h⟩
theorem w_var {i : Nat} (hx : σ[i]? = some (some v)) (h : Q v H) : tVar i σ H Q := ⟨v, hx, h⟩
theorem w_c (h : Q v H) : tC v σ H Q := h
theorem w_op (h : ta σ H fun x H1 => tb σ H1 fun y H2 => r x y H2 Q) : tOp r ta tb σ H Q := h
theorem w_un {f : V → Hp → VK → Prop} (h : ta σ H fun x H1 => f x H1 Q) : tUn f ta σ H Q := h
theorem w_chain (h : ta σ H fun x H1 => tb σ H1 fun y H2 => r x y H2 fun z H3 => ∃ k, z = .bl k ∧ (if k = true then tc σ H3 fun w' H4 => r' y w' H4 Q else Q (.bl false) H3)) : tChain r r' ta tb tc σ H Q := h
theorem w_test (h : te σ H fun x H1 => ∃ k, x = .bl k ∧ QB k H1) : tTest te σ H QB := h
theorem w_tB (h : te σ H fun x H1 => ∃ k, x = .bl k ∧ QB k H1) : tB te σ H QB := h
theorem w_bl {b : Bool} {P : Bool → Prop} (h : P b) : ∃ k, V.bl b = .bl k ∧ P k := ⟨b, rfl, h⟩
theorem w_and {t u : TT} (h : t σ H fun c H1 => if c = true then u σ H1 QB else QB false H1) : tAnd t u σ H QB := h
theorem w_or {t u : TT} (h : t σ H fun c H1 => if c = true then QB true H1 else u σ H1 QB) : tOr t u σ H QB := h
theorem w_not {t : TT} (h : t σ H fun c H1 => QB (!c) H1) : tNot t σ H QB := h
theorem w_andV (h : ta σ H fun x H1 => ∃ c, x = .bl c ∧ if c = true then tb σ H1 Q else Q (.bl false) H1) : tAndV ta tb σ H Q := h
theorem w_orV (h : ta σ H fun x H1 => ∃ c, x = .bl c ∧ if c = true then Q (.bl true) H1 else tb σ H1 Q) : tOrV ta tb σ H Q := h
theorem w_notV (h : ta σ H fun x H1 => ∃ c, x = .bl c ∧ Q (.bl (!c)) H1) : tNotV ta σ H Q := h
theorem w_ifx {t : TT} (h : t σ H fun c H1 => if c = true then ta σ H1 Q else tb σ H1 Q) : tIf t ta tb σ H Q := h
theorem w_nil (h : QA [] H) : tNil σ H QA := h
theorem w_cons {tr : TA} (h : ta σ H fun x H1 => tr σ H1 fun xs H2 => QA (x :: xs) H2) : tCons ta tr σ H QA := h
/-- a new tuple, a new list: the heap is a letter -/
def AlT (xs : List V) (H : Hp) (Q : VK) : Prop := xs.length ≤ sizeLine ∧ ∀ p, H p = none → Q (.ref p) (upd H p (.tup xs))
def AlL (xs : List V) (H : Hp) (Q : VK) : Prop := xs.length ≤ sizeLine ∧ ∀ p, H p = none → Q (.ref p) (upd H p (.lst xs))
theorem same_upd {H : Hp} {p : Addr} {o : HO} (h : H p = none) : Same H (upd H p o) := fun b x e => by
  rw [upd_ne (ne_of_none e h)]
  exact e
theorem w_tup {s : TA} (h : s σ H fun xs H1 => AlT xs H1 Q) : tTup s σ H Q := h
theorem w_lst {s : TA} (h : s σ H fun xs H1 => AlL xs H1 Q) : tLst s σ H Q := h
theorem sz_le {n : Nat} (h : Nat.ble n 1000 = true) : n ≤ sizeLine := Nat.le_trans (Nat.le_of_ble_eq_true h) (by rw [sizeLine_eq]; decide)
theorem w_alT {xs : List V} (hl : xs.length ≤ sizeLine) (h : ∀ p H', H p = none → Same H H' → H' p = some (.tup xs) → Q (.ref p) H') : AlT xs H Q := ⟨hl, fun p hp => h p _ hp (same_upd hp) upd_same⟩
theorem w_alL {xs : List V} (hl : xs.length ≤ sizeLine) (h : ∀ p H', H p = none → Same H H' → H' p = some (.lst xs) → Q (.ref p) H') : AlL xs H Q := ⟨hl, fun p hp => h p _ hp (same_upd hp) upd_same⟩
theorem w_call {sp : Sp} {dvs : List V} {E : XK} {s : TA} (h : s σ H fun vs H1 => sp (vs ++ dvs) H1 Q E) : tCall sp dvs E s σ H Q := h
theorem w_cb {f : List V → Hp → VK → Prop} {s : TA} (h : s σ H fun vs H1 => f vs H1 Q) : tCB f s σ H Q := h
theorem w_I0 {f : Int → Int → V} {i j : Int} (h : Q (f i j) H) : rI0 f (.int i) (.int j) H Q := ⟨i, j, rfl, rfl, h⟩
theorem w_I {C : Int → Int → Prop} {f : Int → Int → V} {i j : Int} (hc : C i j) (h : Q (f i j) H) : rI C f (.int i) (.int j) H Q := ⟨i, j, rfl, rfl, hc, h⟩
theorem w_U {f : Int → V} {i : Int} (h : Q (f i) H) : rU f (.int i) H Q := ⟨i, rfl, h⟩
theorem w_eq (hs : scal x y = true) (h : Q (.bl (decide (x = y))) H) : rEq x y H Q := ⟨hs, h⟩
theorem w_ne (hs : scal x y = true) (h : Q (.bl (!decide (x = y))) H) : rNe x y H Q := ⟨hs, h⟩
theorem w_bits {i : Int} (h : Q (.int (Builtin.Int.intBits i : Nat)) H) : (∃ j, V.int i = .int j ∧ Q (.int (Builtin.Int.intBits j : Nat)) H) := ⟨i, rfl, h⟩
theorem w_tbits (h : te σ H fun x H1 => ∃ i, x = .int i ∧ Q (.int (Builtin.Int.intBits i : Nat)) H1) : tBits te σ H Q := h
theorem w_ixL {p : Addr} {xs : List V} {i : Int} (hl : SqL K H p xs) (ha : atI xs i = some v) (h : Q v H) : rIxL K (.ref p) (.int i) H Q := ⟨p, xs, i, v, rfl, rfl, hl, ha, h⟩
theorem w_ixT {p : Addr} {xs : List V} {i : Int} (hl : SqT K H p xs) (ha : atI xs i = some v) (h : Q v H) : rIxT K (.ref p) (.int i) H Q := ⟨p, xs, i, v, rfl, rfl, hl, ha, h⟩
/-! tests -/
theorem w_itT {A B : Prop} (h : A) : if true = true then A else B := by rw [if_pos rfl]; exact h
theorem w_itF {A B : Prop} (h : B) : if false = true then A else B := by rw [if_neg Bool.false_ne_true]; exact h
theorem w_itC {b : Bool} {A B : Prop} (e : b = true) (h : A) : if b = true then A else B := by rw [if_pos e]; exact h
theorem w_itD {b : Bool} {A B : Prop} (e : b = false) (h : B) : if b = true then A else B := by rw [e, if_neg Bool.false_ne_true]; exact h
theorem w_itI {i j : Int} {A B : Prop} (h1 : i = j → A) (h2 : i ≠ j → B) : if decide (V.int i = V.int j) = true then A else B := by
  by_cases e : i = j
  · rw [if_pos (by rw [e]; exact decide_eq_true rfl)]; exact h1 e
  · rw [if_neg (fun z => e (V.int.inj (of_decide_eq_true z)))]; exact h2 e
theorem w_itN {i j : Int} {A B : Prop} (h1 : i ≠ j → A) (h2 : i = j → B) : if (!decide (V.int i = V.int j)) = true then A else B := by
  by_cases e : i = j
  · rw [e, decide_eq_true rfl]; exact w_itF (h2 e)
  · rw [decide_eq_false (fun z => e (V.int.inj z))]; exact w_itT (h1 e)
theorem w_itd {p A B : Prop} [Decidable p] (h1 : p → A) (h2 : ¬ p → B) : if decide p = true then A else B := by
  by_cases e : p
  · rw [if_pos (decide_eq_true e)]; exact h1 e
  · rw [if_neg (fun z => e (of_decide_eq_true z))]; exact h2 e
theorem w_itn {p A B : Prop} [Decidable p] (h1 : ¬ p → A) (h2 : p → B) : if (!decide p) = true then A else B := by
  by_cases e : p
  · rw [decide_eq_true e]; exact w_itF (h2 e)
  · rw [decide_eq_false e]; exact w_itT (h1 e)
theorem w_itb {b : Bool} {A B : Prop} (h1 : b = true → A) (h2 : b = false → B) : if b = true then A else B := by
  cases b with
  | true => exact w_itT (h1 rfl)
  | false => exact w_itF (h2 rfl)
end
/-! calls of built-ins, by names of our own -/
def rLen (K : PySem.W.Frag) : List V → Hp → VK → Prop := fun xs H Q => ∃ p ys, xs = [.ref p] ∧ (SqL K H p ys ∨ SqT K H p ys) ∧ Q (.int ys.length) H
theorem c_len {X : Cx} : CallR X (.builtin "len") (rLen X.K) := call_len_seq
theorem w_lenL {K : PySem.W.Frag} {H : Hp} {Q : VK} {p : Addr} {xs : List V} (h : SqL K H p xs) (q : Q (.int (xs.length : Int)) H) : rLen K [.ref p] H Q := ⟨p, xs, rfl, .inl h, q⟩
theorem w_lenT {K : PySem.W.Frag} {H : Hp} {Q : VK} {p : Addr} {xs : List V} (h : SqT K H p xs) (q : Q (.int (xs.length : Int)) H) : rLen K [.ref p] H Q := ⟨p, xs, rfl, .inr h, q⟩
def rAbs : List V → Hp → VK → Prop := fun xs H Q => ∃ i, xs = [.int i] ∧ Q (.int (if i < 0 then -i else i)) H
theorem c_abs {X : Cx} : CallR X (.builtin "abs") rAbs := call_abs
theorem w_abs {H : Hp} {Q : VK} {i : Int} (q : Q (.int (if i < 0 then -i else i)) H) : rAbs [.int i] H Q := ⟨i, rfl, q⟩
def rMax2 : List V → Hp → VK → Prop := fun xs H Q => ∃ i j, xs = [.int i, .int j] ∧ Q (.int (if j > i then j else i)) H
def rMin2 : List V → Hp → VK → Prop := fun xs H Q => ∃ i j, xs = [.int i, .int j] ∧ Q (.int (if j < i then j else i)) H
theorem c_max2 {X : Cx} (hc : X.calm = true) : CallR X (.builtin "max") rMax2 := call_max2 hc
theorem c_min2 {X : Cx} (hc : X.calm = true) : CallR X (.builtin "min") rMin2 := call_min2 hc
theorem w_max2 {H : Hp} {Q : VK} {i j : Int} (q : Q (.int (if j > i then j else i)) H) : rMax2 [.int i, .int j] H Q := ⟨i, j, rfl, q⟩
theorem w_min2 {H : Hp} {Q : VK} {i j : Int} (q : Q (.int (if j < i then j else i)) H) : rMin2 [.int i, .int j] H Q := ⟨i, j, rfl, q⟩
def rListOf (K : PySem.W.Frag) : List V → Hp → VK → Prop := fun xs H Q => ∃ p ys, xs = [.ref p] ∧ (SqL K H p ys ∨ SqT K H p ys) ∧ ∀ l, H l = none → Q (.ref l) (upd H l (.lst ys))
theorem c_list {X : Cx} : CallR X (.type "list") (rListOf X.K) := call_list_of
theorem w_listL {K : PySem.W.Frag} {H : Hp} {Q : VK} {p : Addr} {xs : List V} (h : SqL K H p xs) (q : ∀ l H', H l = none → Same H H' → H' l = some (.lst xs) → Q (.ref l) H') : rListOf K [.ref p] H Q := ⟨p, xs, rfl, .inl h, fun l hl => q l _ hl (same_upd hl) upd_same⟩
theorem w_listT {K : PySem.W.Frag} {H : Hp} {Q : VK} {p : Addr} {xs : List V} (h : SqT K H p xs) (q : ∀ l H', H l = none → Same H H' → H' l = some (.lst xs) → Q (.ref l) H') : rListOf K [.ref p] H Q := ⟨p, xs, rfl, .inr h, fun l hl => q l _ hl (same_upd hl) upd_same⟩
/-- a product of two ints of any size that the model allows -/
theorem op_mulI {X : Cx} : OpR X (binaryOp .Mult) (rI IntMulOk fun i j => .int (i * j)) := opI fun _ _ _ _ _ _ _ hc q => mul_int q hc
/-- isinstance, the answer told -/
theorem w_isi {K : PySem.W.Frag} {H : Hp} {Q : VK} {x : V} {t : Value} {n : String} {b : Bool} (ty : TyX K H x t) (e : PySem.W.kitOne K t (.type n) = some b) (q : Q (.bl b) H) : rIsi K [x, .ty n] H Q := ⟨x, .ty n, t, _, b, rfl, .ty n, ty, e, q⟩
theorem kit_ii (K : PySem.W.Frag) : PySem.W.kitOne K (.type "int") (.type "int") = some true := kit_ty (by decide +kernel)
theorem kit_ib (K : PySem.W.Frag) : PySem.W.kitOne K (.type "int") (.type "bool") = some false := kit_ty (by decide +kernel)
theorem kit_bi (K : PySem.W.Frag) : PySem.W.kitOne K (.type "bool") (.type "int") = some true := kit_ty (by decide +kernel)
theorem kit_bb (K : PySem.W.Frag) : PySem.W.kitOne K (.type "bool") (.type "bool") = some true := kit_ty (by decide +kernel)
theorem kit_ll (K : PySem.W.Frag) : PySem.W.kitOne K (.type "list") (.type "list") = some true := kit_ty (by decide +kernel)
theorem kit_tt (K : PySem.W.Frag) : PySem.W.kitOne K (.type "tuple") (.type "tuple") = some true := kit_ty (by decide +kernel)
theorem kit_ss (K : PySem.W.Frag) : PySem.W.kitOne K (.type "str") (.type "str") = some true := kit_ty (by decide +kernel)
theorem w_isiT {K : PySem.W.Frag} {H : Hp} {Q : VK} {p : Addr} {xs : List V} (e : H p = some (.tup xs)) (q : Q (.bl true) H) : rIsi K [.ref p, .ty "tuple"] H Q := w_isi (TyX.base (TyOf.tup e)) (kit_tt K) q
theorem w_isiL {K : PySem.W.Frag} {H : Hp} {Q : VK} {p : Addr} {xs : List V} (e : H p = some (.lst xs)) (q : Q (.bl true) H) : rIsi K [.ref p, .ty "list"] H Q := w_isi (TyX.base (TyOf.lst e)) (kit_ll K) q
theorem kit_tl (K : PySem.W.Frag) : PySem.W.kitOne K (.type "tuple") (.type "list") = some false := kit_ty (by decide +kernel)
theorem kit_lt (K : PySem.W.Frag) : PySem.W.kitOne K (.type "list") (.type "tuple") = some false := kit_ty (by decide +kernel)
/-! slices and sums of lists -/
section
variable {K : PySem.W.Frag} {σ : L2.St} {H : Hp} {Q : VK} {te : TE} {tl th : TO} {QO : Option Int → Hp → Prop}
theorem w_tsl {f : V → Option Int → Option Int → Hp → VK → Prop} (h : te σ H fun x H1 => tl σ H1 fun l H2 => th σ H2 fun u H3 => f x l u H3 Q) : tSl f te tl th σ H Q := h
theorem w_tnp (h : QO none H) : tNoPart σ H QO := h
theorem w_tpt (h : te σ H fun x H1 => ∃ i, x = .int i ∧ QO (some i) H1) : tPart te σ H QO := h
theorem w_pt {i : Int} {P : Int → Prop} (h : P i) : ∃ j, V.int i = .int j ∧ P j := ⟨i, rfl, h⟩
theorem w_sl {p : Addr} {xs : List V} {lo hi : Option Int} (h : SqL K H p xs) (q : ∀ l H', H l = none → Same H H' → H' l = some (.lst (cutV xs lo hi)) → Q (.ref l) H') : rSlL K (.ref p) lo hi H Q :=
  ⟨p, xs, rfl, h, fun l hl => q l _ hl (same_upd hl) upd_same⟩
theorem w_cat {p b : Addr} {xs ys : List V} (h1 : H p = some (.lst xs)) (h2 : H b = some (.lst ys)) (hz : xs.length + ys.length ≤ 16000000) (q : ∀ l H', H l = none → Same H H' → H' l = some (.lst (xs ++ ys)) → Q (.ref l) H') : rCat (.ref p) (.ref b) H Q :=
  ⟨p, b, xs, ys, rfl, rfl, h1, h2, Nat.le_trans hz (by rw [sizeLine_eq]; decide), fun l hl => q l _ hl (same_upd hl) upd_same⟩
end
/-! heaps that grow -/
theorem same_at {H H' : Hp} {b : Addr} {o : HO} (s : Same H H') (h : H b = some o) : H' b = some o := s b o h
theorem same_tup {K : PySem.W.Frag} {H H' : Hp} {a : Addr} {xs : List V} (e : Same H H') (h : SqT K H a xs) : SqT K H' a xs := by
  rcases h with (h | ⟨o, h⟩) | h
  · exact .inl (.inl (e _ _ h))
  · exact .inl (.inr ⟨o, e _ _ h⟩)
  · exact .inr h
theorem p2pos (k : Nat) : (0 : Int) < 2 ^ k := Int.pow_pos (by decide)
/-! loops -/
section
variable {K : PySem.W.Frag} {D : Ends} {σ : L2.St} {H : Hp} {Q : VK} {ta te tl : TE} {t : TS} {g : TG} {s : TA} {wi : TI} {tt : TT} {vs : List Nat}
def ForB (J : It) (g : TG) (t : TS) (D : Ends) (σ : L2.St) (H : Hp) : Prop := ∃ W : Nat → Nat → L2.St → Hp → Prop, (∃ m, W 0 m σ H) ∧ ∀ i m σ H, W i m σ H →
  (J.stop i H ∧ D.nx σ H) ∨ (J.go i H ∧ ∃ N : L2.St → Hp → Prop, (∀ σ' H', N σ' H' → ∃ m', m' < m ∧ W (i + 1) m' σ' H') ∧ ∀ x H', J.yld i H x H' → g x σ H' fun σ2 H2 => t { D with nx := N, ct := N, bk := D.nx } σ2 H2)
theorem w_for (h : wi σ H fun J H1 => ForB J g t D σ H1) : tFor wi g t D σ H := h
def LcB (J : It) (g : TG) (tt : TT) (te : TE) (vs : List Nat) (σ : L2.St) (Q : VK) (H1 : Hp) : Prop := ∀ D, H1 D = none → ∃ W : Nat → Nat → Hp → Prop, (∃ m, W 0 m (upd H1 D (.lst []))) ∧ ∀ i m H, W i m H →
  (J.stop i H ∧ Q (.ref D) H) ∨ (J.go i H ∧ ∃ Nx : Hp → Prop, (∀ H', Nx H' → ∃ m', m' < m ∧ W (i + 1) m' H') ∧ ∀ x H', J.yld i H x H' → g x (wipe σ vs) H' fun σ2 H2 => wipe σ2 vs = wipe σ vs ∧ tt σ2 H2 fun b H3 =>
    if b = true then te σ2 H3 fun y H4 => ∃ acc, H4 D = some (.lst acc) ∧ acc.length < sizeLine ∧ Nx (upd H4 D (.lst (acc ++ [y]))) else Nx H3)
theorem w_lc (h : wi σ H fun J H1 => LcB J g tt te vs σ Q H1) : tLc wi g tt te vs σ H Q := h
def IL1 (K : PySem.W.Frag) (R : It → Hp → Prop) (x : V) (H1 : Hp) : Prop := ∃ a, x = .ref a ∧ (∃ xs, SqL K H1 a xs) ∧ R (Itl K a) H1
def IT1 (K : PySem.W.Frag) (R : It → Hp → Prop) (x : V) (H1 : Hp) : Prop := ∃ a, x = .ref a ∧ (∃ xs, SqT K H1 a xs) ∧ R (Itt K a) H1
def IR1 (R : It → Hp → Prop) (vs : List V) (H1 : Hp) : Prop := ∃ j : Int, vs = [.int j] ∧ -(2 ^ 62) ≤ j ∧ j < 2 ^ 62 ∧ R (Itr 0 j.toNat) H1
def IR2 (R : It → Hp → Prop) (vs : List V) (H1 : Hp) : Prop := ∃ i j : Int, vs = [.int i, .int j] ∧ (-(2 ^ 62) ≤ i ∧ i < 2 ^ 62 ∧ -(2 ^ 62) ≤ j ∧ j < 2 ^ 62) ∧ R (Itr i (j - i).toNat) H1
variable {R : It → Hp → Prop}
theorem w_iL (h : tl σ H fun x H1 => IL1 K R x H1) : iList K tl σ H R := h
theorem w_iT (h : tl σ H fun x H1 => IT1 K R x H1) : iTup K tl σ H R := h
theorem w_iR1 (h : s σ H fun x H1 => IR1 R x H1) : iRng1 s σ H R := h
theorem w_iR2 (h : s σ H fun x H1 => IR2 R x H1) : iRng2 s σ H R := h
theorem w_IL1 {a : Addr} {xs : List V} (h : SqL K H a xs) (q : R (Itl K a) H) : IL1 K R (.ref a) H := ⟨a, rfl, ⟨xs, h⟩, q⟩
theorem w_IT1 {a : Addr} {xs : List V} (h : SqT K H a xs) (q : R (Itt K a) H) : IT1 K R (.ref a) H := ⟨a, rfl, ⟨xs, h⟩, q⟩
theorem w_IR1 {j : Int} (h : -1000000 ≤ j ∧ j ≤ 1000000) (q : R (Itr 0 j.toNat) H) : IR1 R [.int j] H := ⟨j, rfl, by omega, by omega, q⟩
theorem w_IR2 {i j : Int} (h : -1000000 ≤ i ∧ i ≤ 1000000 ∧ -1000000 ≤ j ∧ j ≤ 1000000) (q : R (Itr i (j - i).toNat) H) : IR2 R [.int i, .int j] H := ⟨i, j, rfl, by omega, q⟩
/-- for x in a list that stands: Pv by the turn, the slots, the heap -/
theorem for_l {a : Addr} {j : Nat} (xs : List V) (Pv : Nat → L2.St → Hp → Prop) (h0 : Pv 0 σ H) (hl : ∀ i σ H, i ≤ xs.length → Pv i σ H → SqL K H a xs)
    (hs : ∀ i x σ' H', xs[i]? = some x → Pv i σ' H' → t { D with nx := Pv (i + 1), ct := Pv (i + 1), bk := D.nx } (σ'.set j (some x)) H') (hd : ∀ σ' H', Pv xs.length σ' H' → D.nx σ' H') : ForB (Itl K a) (gName j) t D σ H :=
  for_list Pv h0 hl hs hd
theorem for_t {a : Addr} {j : Nat} (xs : List V) (Pv : Nat → L2.St → Hp → Prop) (h0 : Pv 0 σ H) (hl : ∀ i σ H, i ≤ xs.length → Pv i σ H → SqT K H a xs)
    (hs : ∀ i x σ' H', xs[i]? = some x → Pv i σ' H' → t { D with nx := Pv (i + 1), ct := Pv (i + 1), bk := D.nx } (σ'.set j (some x)) H') (hd : ∀ σ' H', Pv xs.length σ' H' → D.nx σ' H') : ForB (Itt K a) (gName j) t D σ H :=
  for_tup Pv h0 hl hs hd
theorem for_r {n j : Nat} (Pv : Nat → L2.St → Hp → Prop) (h0 : Pv 0 σ H)
    (hs : ∀ (i : Nat) σ' H', i < n → Pv i σ' H' → t { D with nx := Pv (i + 1), ct := Pv (i + 1), bk := D.nx } (σ'.set j (some (.int (i : Int)))) H') (hd : ∀ σ' H', Pv n σ' H' → D.nx σ' H') : ForB (Itr 0 n) (gName j) t D σ H :=
  for_range Pv h0 (fun i σ' H' hi p => by
    show t _ (σ'.set j (some (.int (0 + (i : Int))))) H'
    rw [Int.zero_add]
    exact hs i σ' H' hi p) hd
theorem for_r2 {lo : Int} {n j : Nat} (Pv : Nat → L2.St → Hp → Prop) (h0 : Pv 0 σ H)
    (hs : ∀ (i : Nat) σ' H', i < n → Pv i σ' H' → t { D with nx := Pv (i + 1), ct := Pv (i + 1), bk := D.nx } (σ'.set j (some (.int (lo + (i : Int))))) H') (hd : ∀ σ' H', Pv n σ' H' → D.nx σ' H') : ForB (Itr lo n) (gName j) t D σ H :=
  for_range Pv h0 hs hd
/-- a comprehension over range(n) whose elements leave the heap -/
theorem lc_r {n j : Nat} (f : Nat → V) (hn : n < 1000000) (hw : ∀ x, wipe ((wipe σ vs).set j (some x)) vs = wipe σ vs)
    (he : ∀ (i : Nat) H' (Q' : VK), i < n → Same H H' → Q' (f i) H' → te ((wipe σ vs).set j (some (.int (i : Int)))) H' Q')
    (q : ∀ p H', H p = none → Same H H' → H' p = some (.lst ((List.range n).map f)) → Q (.ref p) H') : LcB (Itr 0 n) (gName j) tYes te vs σ Q H := fun p hp =>
  lc_range (lo := 0) (n := n) (fun i H' => H' = upd H p (.lst ((List.range i).map f))) rfl (fun i H' hi e => by
    subst e
    have e0 : V.int (0 + (i : Int)) = V.int (i : Int) := by rw [Int.zero_add]
    show wipe ((wipe σ vs).set j (some (V.int (0 + (i : Int))))) vs = wipe σ vs ∧ te ((wipe σ vs).set j (some (V.int (0 + (i : Int))))) (upd H p (.lst ((List.range i).map f)))
      (fun y H4 => ∃ acc, H4 p = some (.lst acc) ∧ acc.length < sizeLine ∧ upd H4 p (.lst (acc ++ [y])) = upd H p (.lst ((List.range (i + 1)).map f)))
    rw [e0]
    refine ⟨hw _, he i _ _ hi (same_upd hp) ⟨_, upd_same, ?_, ?_⟩⟩
    · rw [List.length_map, List.length_range]
      exact Nat.lt_of_lt_of_le (show i < 16777216 by omega) (by rw [sizeLine_eq]; exact Nat.le_refl _)
    · rw [upd_upd, List.range_succ, List.map_append]
      rfl) fun H' e => by
    subst e
    exact q p _ hp (same_upd hp) upd_same
end
/-! lists of ints -/
theorem get_map {α : Type} {xs : List α} {f : α → V} {i : Nat} {x : V} (h : (xs.map f)[i]? = some x) : ∃ y, xs[i]? = some y ∧ x = f y := by
  rw [List.getElem?_map] at h
  cases e : xs[i]? with
  | none => rw [e] at h; cases h
  | some y => rw [e] at h; exact ⟨y, rfl, (Option.some.inj h).symm⟩
theorem cut_upto (xs : List V) (n : Nat) : cutV xs none (some (n : Int)) = xs.take n := by
  unfold cutV
  rw [HT.sIx_none, HT.sIx_nat, List.drop_zero, Nat.sub_zero]
  rcases Nat.le_total n xs.length with h | h
  · rw [Nat.min_eq_left h]
  · rw [Nat.min_eq_right h, List.take_of_length_le (Nat.le_refl _), List.take_of_length_le h]
theorem cut_from (xs : List V) (n : Nat) (h : n ≤ xs.length) : cutV xs (some (n : Int)) none = xs.drop n := by
  unfold cutV
  rw [HT.sIx_none, HT.sIx_nat, Nat.min_eq_left h]
  exact List.take_of_length_le (by rw [List.length_drop]; exact Nat.le_refl _)
/-- the cells of a law: at most 63 of the script, and nought behind -/
def cells (ns : List Int) : List Int := ns.take 63 ++ [0]
theorem cells_eq (ns : List Int) : cutV (ns.map V.int) none (some (63 : Int)) ++ [V.int 0] = (cells ns).map V.int := by
  rw [show (63 : Int) = ((63 : Nat) : Int) from rfl, cut_upto, cells, List.map_append, List.map_take]
  rfl
theorem cells_len (ns : List Int) : (cells ns).length ≤ 64 ∧ 1 ≤ (cells ns).length := by
  unfold cells
  rw [List.length_append, List.length_take, List.length_singleton]
  omega
theorem cutV_le (xs : List V) (lo hi : Option Int) {n : Nat} (h : xs.length ≤ n) : (cutV xs lo hi).length ≤ n := Nat.le_trans (cutV_length xs lo hi) h
/-! == of data -/
theorem w_neD {K : PySem.W.Frag} {H : Hp} {Q : VK} {x y : V} {d e : PyData} (hx : Dp K H x d) (hy : Dp K H y e) (sd : SeqAt.shaped d = true) (se : SeqAt.shaped e = true) (q : Q (.bl (!PyData.eqv d e)) H) : rNeD K x y H Q := ⟨d, e, hx, hy, sd, se, q⟩
theorem w_eqD {K : PySem.W.Frag} {H : Hp} {Q : VK} {x y : V} {d e : PyData} (hx : Dp K H x d) (hy : Dp K H y e) (sd : SeqAt.shaped d = true) (se : SeqAt.shaped e = true) (q : Q (.bl (PyData.eqv d e)) H) : rEqD K x y H Q := ⟨d, e, hx, hy, sd, se, q⟩
theorem w_neSame {K : PySem.W.Frag} {H : Hp} {Q : VK} {x y : V} (d : PyData) (hx : Dp K H x d) (hy : Dp K H y d) (sd : SeqAt.shaped d = true) (q : Q (.bl false) H) : rNeD K x y H Q :=
  ⟨d, d, hx, hy, sd, sd, by rw [SeqAt.eqv_refl d (SeqAt.canLay_of_shaped sd)]; exact q⟩
theorem w_eqSame {K : PySem.W.Frag} {H : Hp} {Q : VK} {x y : V} (d : PyData) (hx : Dp K H x d) (hy : Dp K H y d) (sd : SeqAt.shaped d = true) (q : Q (.bl true) H) : rEqD K x y H Q :=
  ⟨d, d, hx, hy, sd, sd, by rw [SeqAt.eqv_refl d (SeqAt.canLay_of_shaped sd)]; exact q⟩
theorem dp_ints {K : PySem.W.Frag} {H : Hp} : ∀ ns : List Int, DpAll K H (ns.map V.int) (ns.map PyData.int)
  | [] => .nil
  | n :: r => .cons (.int n) (dp_ints r)
theorem lay_ints : ∀ ns : List Int, PyData.canLayAll0 (ns.map PyData.int) = true
  | [] => rfl
  | n :: r => by
    show (PyData.canLay0 (.int n) && PyData.canLayAll0 (r.map PyData.int)) = true
    rw [lay_ints r]
    rfl
/-! lists that change -/
section
variable {K : PySem.W.Frag} {D : Ends} {σ : L2.St} {H H1 : Hp} {Q : VK} {to : TE} {t : TA} {b : TS}
/-- what H does not know may change behind it -/
theorem same_mut {o : Addr} {u : HO} (s : Same H H1) (n : H o = none) : Same H (upd H1 o u) := fun c x e => by
  rw [upd_ne (ne_of_none e n)]
  exact s c x e
def BM1 (K : PySem.W.Frag) (T : String) (f : V → List V → Hp → VK → Prop) (t : TA) (σ : L2.St) (Q : VK) (x : V) (H1 : Hp) : Prop := tyV K T x H1 ∧ t σ H1 fun xs H2 => f x xs H2 Q
def BM0 (K : PySem.W.Frag) (T : String) (f : V → List V → Hp → VK → Prop) (Q : VK) (x : V) (H1 : Hp) : Prop := tyV K T x H1 ∧ f x [] H1 Q
theorem w_bm {T : String} {f : V → List V → Hp → VK → Prop} (h : to σ H fun x H1 => BM1 K T f t σ Q x H1) : tBM K T f to t σ H Q := h
theorem w_bm0 {T : String} {f : V → List V → Hp → VK → Prop} (h : to σ H fun x H1 => BM0 K T f Q x H1) : tBM0 K T f to σ H Q := h
theorem w_BML {f : V → List V → Hp → VK → Prop} {p : Addr} {xs : List V} (e : H p = some (.lst xs)) (q : t σ H fun vs H2 => f (.ref p) vs H2 Q) : BM1 K "list" f t σ Q (.ref p) H := ⟨.inl ⟨rfl, xs, SqL.of e⟩, q⟩
theorem w_BM0L {f : V → List V → Hp → VK → Prop} {p : Addr} {xs : List V} (e : H p = some (.lst xs)) (q : f (.ref p) [] H Q) : BM0 K "list" f Q (.ref p) H := ⟨.inl ⟨rfl, xs, SqL.of e⟩, q⟩
theorem w_append {p : Addr} {xs : List V} {y : V} (e : H p = some (.lst xs)) (hz : xs.length ≤ 1000000) (q : Q .non (upd H p (.lst (xs ++ [y])))) : rAppend (.ref p) [y] H Q :=
  ⟨p, xs, y, rfl, rfl, e, Nat.lt_of_le_of_lt hz (by rw [sizeLine_eq]; decide), q⟩
/-- for k, x in enumerate(a list that stands) -/
def IE1 (K : PySem.W.Frag) (R : It → Hp → Prop) (vs : List V) (H1 : Hp) : Prop := ∃ a xs, vs = [.ref a] ∧ SqL K H1 a xs ∧ R (Ite K a) H1
theorem w_iE {s : TA} {R : It → Hp → Prop} (h : s σ H fun x H1 => IE1 K R x H1) : iEnum K s σ H R := h
theorem w_IE1 {a : Addr} {xs : List V} {R : It → Hp → Prop} (h : SqL K H a xs) (q : R (Ite K a) H) : IE1 K R [.ref a] H := ⟨a, xs, rfl, h, q⟩
theorem for_e {a : Addr} {j k : Nat} (xs : List V) (Pv : Nat → L2.St → Hp → Prop) (h0 : Pv 0 σ H) (hl : ∀ n σ H, n ≤ xs.length → Pv n σ H → SqL K H a xs)
    (hs : ∀ (n : Nat) x σ' H' H'', xs[n]? = some x → Pv n σ' H' → Same H' H'' → b { D with nx := Pv (n + 1), ct := Pv (n + 1), bk := D.nx } ((σ'.set j (some (.int (n : Int)))).set k (some x)) H'') (hd : ∀ σ' H', Pv xs.length σ' H' → D.nx σ' H') :
    ForB (Ite K a) (gTup K 2 (gCons (gName j) (gCons (gName k) gNil))) b D σ H := by
  refine ⟨fun i m σ H => m = xs.length - i ∧ i ≤ xs.length ∧ Pv i σ H, ⟨xs.length, by simp, Nat.zero_le _, h0⟩, ?_⟩
  rintro i m σ H ⟨rfl, hi, p⟩
  have q := hl i σ H hi p
  by_cases hlt : i < xs.length
  · refine .inr ⟨⟨xs, xs[i], q, by simp [hlt]⟩, Pv (i + 1), fun σ' H' p' => ⟨xs.length - (i + 1), by omega, rfl, hlt, p'⟩, fun x H' y => ?_⟩
    obtain ⟨T, y, rfl, nT, rfl, hy⟩ := y
    refine ⟨T, _, rfl, SqT.of upd_same, rfl, _, _, rfl, _, _, rfl, rfl, ?_⟩
    exact hs i y σ H _ (hy xs q) p (same_upd nT)
  · have e : i = xs.length := by omega
    subst e
    exact .inl ⟨⟨xs, q, Nat.le_refl _⟩, hd σ H p⟩
end
/-- x & 1 -/
def rBit1 : R2 := fun x y H Q => ∃ i : Int, x = .int i ∧ y = .int 1 ∧ Q (.int (i % 2)) H
theorem op_bit1 {X : Cx} : OpR X (binaryOp .BitAnd) rBit1 := by
  intro pins s σ H x y v u Q I rx ry h
  obtain ⟨i, rfl, rfl, q⟩ := h
  have e : Builtin.bitAnd i 1 = i % 2 := PySem.W.kbt_mask i 1
  rw [← e] at q
  exact op_and pins s σ H _ _ v u Q I rx ry ⟨_, _, rfl, rfl, q⟩
theorem w_bit1 {H : Hp} {Q : VK} {i : Int} (q : Q (.int (i % 2)) H) : rBit1 (.int i) (.int 1) H Q := ⟨i, rfl, rfl, q⟩
/-- x >> k, k a place -/
def rShrN : R2 := fun x y H Q => ∃ (i : Int) (k : Nat), x = .int i ∧ y = .int (k : Int) ∧ Q (.int (i / 2 ^ k)) H
theorem op_shrK {X : Cx} : OpR X (binaryOp .RShift) rShrN := op_shrN
theorem w_shrN {H : Hp} {Q : VK} {i : Int} {k : Nat} (q : Q (.int (i / 2 ^ k)) H) : rShrN (.int i) (.int (k : Int)) H Q := ⟨i, k, rfl, rfl, q⟩
/-- x << k, x small, k a place -/
def rShlN : R2 := fun x y H Q => ∃ (i : Int) (k : Nat), x = .int i ∧ y = .int (k : Int) ∧ (-100 ≤ i ∧ i ≤ 100 ∧ k ≤ 1000000) ∧ Q (.int (i * 2 ^ k)) H
theorem op_shlK {X : Cx} : OpR X (binaryOp .LShift) rShlN := by
  intro pins s σ H x y v u Q I rx ry h
  obtain ⟨i, k, rfl, rfl, ⟨h1, h2, h3⟩, q⟩ := h
  refine op_shl pins s σ H _ _ v u Q I rx ry ⟨_, _, rfl, rfl, ⟨by omega, by omega, Nat.lt_of_le_of_lt (show i.natAbs ≤ 100 by omega) (by decide)⟩, ?_⟩
  show Q (.int (i * 2 ^ (k : Int).toNat)) H
  rw [Int.toNat_natCast]
  exact q
theorem w_shlN {H : Hp} {Q : VK} {i : Int} {k : Nat} (h : -100 ≤ i ∧ i ≤ 100 ∧ k ≤ 1000000) (q : Q (.int (i * 2 ^ k)) H) : rShlN (.int i) (.int (k : Int)) H Q := ⟨i, k, rfl, rfl, h, q⟩
theorem bits_of_int {i : Int} {n : Nat} (h : i.natAbs < 2 ^ n) : Builtin.Int.intBits i ≤ n + 1 := by
  have b : Builtin.Int.intBits i ≤ i.natAbs.log2 + 1 := by
    unfold Builtin.Int.intBits
    split <;> omega
  rcases Nat.eq_zero_or_pos n with h0 | h0
  · subst h0
    have e : i.natAbs = 0 := by omega
    rw [e] at b
    exact b
  · have := PySem.Flt.log2_lt_of h0 h
    omega
theorem mul_ok {i j : Int} {n : Nat} (hi : Builtin.Int.intBits i ≤ 1048576) (hj : j.natAbs < 2 ^ n) (hn : n ≤ 1000000) : IntMulOk i j :=
  CMulX.ok (show (Builtin.Int.intBits i : Int) + (Builtin.Int.intBits j : Int) ≤ 134217728 by have := bits_of_int hj; omega)
theorem mul_sm {i j : Int} (h : -1000000000000 ≤ i ∧ i ≤ 1000000000000) : IntMulOk i j := .of_left (intBits_le_64 (by omega) (by omega))
theorem mul_sm2 {i j : Int} (h : -1000000000000 ≤ j ∧ j ≤ 1000000000000) : IntMulOk i j := .of_right (intBits_le_64 (by omega) (by omega))
theorem depth_ints : ∀ ns : List Int, PyData.depthAll (ns.map PyData.int) ≤ 1
  | [] => Nat.zero_le 1
  | n :: r => by
    have := depth_ints r
    show max (PyData.depth (.int n)) (PyData.depthAll (r.map PyData.int)) ≤ 1
    exact Nat.max_le.mpr ⟨Nat.zero_le 1, this⟩
theorem shaped_ints (ns : List Int) : SeqAt.shaped (.list (ns.map PyData.int)) = true := by
  unfold SeqAt.shaped
  rw [show PyData.canLay0 (.list (ns.map PyData.int)) = true from lay_ints ns, Bool.true_and]
  have h := depth_ints ns
  exact decide_eq_true (show PyData.depthAll (ns.map PyData.int) + 1 ≤ 64 by omega)
/-! targets of several names -/
section
variable {K : PySem.W.Frag} {σ : L2.St} {H : Hp} {t : TG} {u tt : TGs} {QS : L2.St → Hp → Prop}
theorem w_gTup {n : Nat} {a : Addr} {xs : List V} (h : SqT K H a xs) (e : xs.length = n) (q : tt xs σ H QS) : gTup K n tt (.ref a) σ H QS := ⟨a, xs, rfl, h, e, q⟩
theorem w_gCons {v : V} {r : List V} (q : t v σ H fun σ' H' => u r σ' H' QS) : gCons t u (v :: r) σ H QS := ⟨v, r, rfl, q⟩
theorem w_gNil (q : QS σ H) : gNil [] σ H QS := ⟨rfl, q⟩
theorem w_gName {v : V} {i : Nat} (q : QS (σ.set i (some v)) H) : gName i v σ H QS := q
end
/-- how many bits a number has -/
theorem ib_le {x : Int} (h : 0 ≤ x) (n : Nat) : Builtin.Int.intBits x ≤ n ↔ x < 2 ^ n := by
  obtain ⟨k, rfl⟩ := Int.eq_ofNat_of_zero_le h
  have e : (k : Int) < 2 ^ n ↔ k < 2 ^ n := by
    rw [show ((2 : Int) ^ n) = ((2 ^ n : Nat) : Int) by rw [Int.natCast_pow]; rfl]
    exact Int.ofNat_lt
  rw [e]
  by_cases h0 : k = 0
  · subst h0
    exact ⟨fun _ => Nat.pos_of_ne_zero (by intro z; exact absurd z (Nat.ne_of_gt (Nat.pow_pos (by decide)))), fun _ => Nat.zero_le _⟩
  · have hb : Builtin.Int.intBits (k : Int) = k.log2 + 1 := by
      unfold Builtin.Int.intBits
      rw [if_neg (by simpa using h0)]
      rfl
    rw [hb]
    exact (Nat.log2_lt h0)
theorem mul_cc {i j : Int} (hi : Builtin.Int.intBits i ≤ 1048576) (hj : Builtin.Int.intBits j ≤ 1048576) : IntMulOk i j :=
  CMulX.ok (show (Builtin.Int.intBits i : Int) + (Builtin.Int.intBits j : Int) ≤ 134217728 by omega)
theorem abs_pow (n : Nat) : ((1 : Int) * 2 ^ n).natAbs = 2 ^ n := by
  rw [Int.one_mul, Int.natAbs_pow]
  rfl
/-! cells of a script by their places -/
theorem get_int {ns : List Int} {i : Nat} (hi : i < ns.length) : atI (ns.map V.int) (i : Int) = some (.int ns[i]) := atI_nat (by rw [List.getElem?_map, List.getElem?_eq_getElem hi]; rfl)
theorem atI_lastD {bs : List Int} (h : bs ≠ []) : atI (bs.map V.int) (-1) = some (.int (bs.getLastD 0)) := by
  obtain ⟨r, x, rfl⟩ : ∃ r x, bs = r ++ [x] := ⟨bs.dropLast, bs.getLast h, (List.dropLast_concat_getLast h).symm⟩
  rw [List.map_append]
  have e : (r ++ [x]).getLastD 0 = x := by simp
  rw [e]
  exact atI_last _ _
theorem atI_prev {xs : List Int} {k : Nat} (hk : k < xs.length) : ∃ c, atI (xs.map V.int) ((k : Int) - 1) = some (.int c) ∧ c ∈ xs := by
  cases k with
  | zero =>
    have hne : xs ≠ [] := fun z => by
      rw [z] at hk
      exact absurd hk (by decide)
    refine ⟨xs.getLastD 0, atI_lastD hne, ?_⟩
    obtain ⟨r, x, rfl⟩ : ∃ r x, xs = r ++ [x] := ⟨xs.dropLast, xs.getLast hne, (List.dropLast_concat_getLast hne).symm⟩
    simp
  | succ j =>
    have hj : j < xs.length := by omega
    refine ⟨xs[j], ?_, List.getElem_mem hj⟩
    have e : ((j + 1 : Nat) : Int) - 1 = (j : Int) := by omega
    rw [e]
    exact get_int hj
theorem cells_bits {ns : List Int} (h : ∀ z ∈ ns, Builtin.Int.intBits z ≤ 1048576) : ∀ z ∈ cells ns, Builtin.Int.intBits z ≤ 1048576 := by
  intro z hz
  rcases List.mem_append.mp hz with q | q
  · exact h z (List.mem_of_mem_take q)
  · have e : z = 0 := List.mem_singleton.mp q
    rw [e]
    decide
/-! texts compared -/
theorem w_itS1 {x y : Str} {A B : Prop} (e : decide (x = y) = true) (h : A) : if decide (V.str x = V.str y) = true then A else B := by
  rw [of_decide_eq_true e, decide_eq_true rfl]
  exact w_itT h
theorem w_itS0 {x y : Str} {A B : Prop} (e : decide (x = y) = false) (h : B) : if decide (V.str x = V.str y) = true then A else B := by
  rw [decide_eq_false (fun z => of_decide_eq_false e (V.str.inj z))]
  exact w_itF h
theorem w_itN1 {x y : Str} {A B : Prop} (e : decide (x = y) = true) (h : B) : if (!decide (V.str x = V.str y)) = true then A else B := by
  rw [of_decide_eq_true e, decide_eq_true rfl]
  exact w_itF h
theorem w_itN0 {x y : Str} {A B : Prop} (e : decide (x = y) = false) (h : A) : if (!decide (V.str x = V.str y)) = true then A else B := by
  rw [decide_eq_false (fun z => of_decide_eq_false e (V.str.inj z))]
  exact w_itT h
theorem w_itS {x y : Str} {A B : Prop} (h1 : x = y → A) (h2 : x ≠ y → B) : if decide (V.str x = V.str y) = true then A else B := by
  by_cases e : x = y
  · exact w_itS1 (decide_eq_true e) (h1 e)
  · exact w_itS0 (decide_eq_false e) (h2 e)
theorem w_itSN {x y : Str} {A B : Prop} (h1 : x ≠ y → A) (h2 : x = y → B) : if (!decide (V.str x = V.str y)) = true then A else B := by
  by_cases e : x = y
  · exact w_itN1 (decide_eq_true e) (h2 e)
  · exact w_itN0 (decide_eq_false e) (h1 e)
/-! dicts asked -/
def DG1 (x y : V) (H2 : Hp) (Q : VK) : Prop := ∃ a v, x = .ref a ∧ DGet H2 a y (some v) ∧ Q v H2
theorem w_dget {td ty : TE} {σ : L2.St} {H : Hp} {Q : VK} (h : td σ H fun x H1 => ty σ H1 fun y H2 => DG1 x y H2 Q) : tDGet td ty σ H Q := h
theorem w_DG1 {a : Addr} {kvs : List (Key × V)} {n : Str} {v : V} {H : Hp} {Q : VK} (e : H a = some (.dK kvs)) (g : valV kvs (Sum.inr n) = some v) (q : Q v H) : DG1 (.ref a) (.str n) H Q :=
  ⟨a, v, rfl, by rw [← g]; exact DGet.k (k := Sum.inr n) e, q⟩
/-! lists in step -/
def A2 {α β : Type} (R : α → β → Prop) (xs : List α) (ys : List β) : Prop := xs.length = ys.length ∧ ∀ (i : Nat) x y, xs[i]? = some x → ys[i]? = some y → R x y
theorem A2.nil {α β : Type} {R : α → β → Prop} : A2 R [] [] := ⟨rfl, fun i x y h => by cases h⟩
theorem A2.snoc {α β : Type} {R : α → β → Prop} {xs : List α} {ys : List β} {x : α} {y : β} (h : A2 R xs ys) (r : R x y) : A2 R (xs ++ [x]) (ys ++ [y]) := by
  refine ⟨by rw [List.length_append, List.length_append, h.1]; rfl, fun i u v hu hv => ?_⟩
  rcases Nat.lt_trichotomy i xs.length with q | q | q
  · rw [List.getElem?_append_left q] at hu
    rw [List.getElem?_append_left (by rw [← h.1]; exact q)] at hv
    exact h.2 i u v hu hv
  · subst q
    rw [List.getElem?_append_right (Nat.le_refl _), Nat.sub_self] at hu
    rw [h.1, List.getElem?_append_right (Nat.le_refl _), Nat.sub_self] at hv
    cases hu
    cases hv
    exact r
  · rw [List.getElem?_eq_none (by rw [List.length_append]; exact q)] at hu
    cases hu
theorem A2.mono {α β : Type} {R S : α → β → Prop} {xs : List α} {ys : List β} (h : A2 R xs ys) (k : ∀ x y, R x y → S x y) : A2 S xs ys := ⟨h.1, fun i x y a b => k x y (h.2 i x y a b)⟩
theorem A2.get {α β : Type} {R : α → β → Prop} {xs : List α} {ys : List β} {i : Nat} {x : α} (h : A2 R xs ys) (e : xs[i]? = some x) : ∃ y, ys[i]? = some y ∧ R x y := by
  have hi := (List.getElem?_eq_some_iff.mp e).1
  have hj : i < ys.length := by rw [← h.1]; exact hi
  exact ⟨ys[i], List.getElem?_eq_getElem hj, h.2 i x _ e (List.getElem?_eq_getElem hj)⟩
theorem A2.get2 {α β : Type} {R : α → β → Prop} {xs : List α} {ys : List β} {i : Nat} {y : β} (h : A2 R xs ys) (e : ys[i]? = some y) : ∃ x, xs[i]? = some x ∧ R x y := by
  have hi := (List.getElem?_eq_some_iff.mp e).1
  have hj : i < xs.length := by rw [h.1]; exact hi
  exact ⟨xs[i], List.getElem?_eq_getElem hj, h.2 i _ y (List.getElem?_eq_getElem hj) e⟩
theorem mul_ok2 {i j : Int} {n : Nat} (hi : Builtin.Int.intBits i ≤ 1048576) (hj : j.natAbs < 2 ^ n) (hn : n ≤ 1000000) : IntMulOk i j := mul_ok hi hj hn
/-! the rules with the written part named (within a comprehension it must be) -/
theorem ix_tupK {X : Cx} (K : PySem.W.Frag) (e : X.K = K := by rfl) : IxR X (rIxT K) := by subst e; exact ix_tup
theorem ix_listK {X : Cx} (K : PySem.W.Frag) (e : X.K = K := by rfl) : IxR X (rIxL K) := by subst e; exact ix_list
theorem c_lenK {X : Cx} (K : PySem.W.Frag) (e : X.K = K := by rfl) : CallR X (.builtin "len") (rLen K) := by subst e; exact c_len
theorem c_listK {X : Cx} (K : PySem.W.Frag) (e : X.K = K := by rfl) : CallR X (.type "list") (rListOf K) := by subst e; exact c_list
theorem c_isiK {X : Cx} (K : PySem.W.Frag) (e : X.K = K := by rfl) : CallR X (.builtin "isinstance") (rIsi K) := by subst e; exact call_isi
/-- a comprehension over a list that stands, whose elements leave the heap -/
theorem lc_l {K : PySem.W.Frag} {σ : L2.St} {H : Hp} {Q : VK} {te : TE} {vs : List Nat} {a : Addr} {j : Nat} (xs ys : List V) (hlen : ys.length = xs.length) (hS : SqL K H a xs) (hz : xs.length ≤ 1000000) (hw : ∀ x, wipe ((wipe σ vs).set j (some x)) vs = wipe σ vs)
    (he : ∀ (i : Nat) x y H' (Q' : VK), xs[i]? = some x → ys[i]? = some y → Same H H' → Q' y H' → te ((wipe σ vs).set j (some x)) H' Q')
    (q : ∀ p H', H p = none → Same H H' → H' p = some (.lst ys) → Q (.ref p) H') : LcB (Itl K a) (gName j) tYes te vs σ Q H := fun p hp =>
  lc_list (xs := xs) (fun i H' => H' = upd H p (.lst (ys.take i))) rfl (fun i H' _ e => by
    subst e
    exact (same_upd hp).seq hS) (fun i x H' hx e => by
    subst e
    have hi := (List.getElem?_eq_some_iff.mp hx).1
    have hy : ys[i]? = some ys[i] := List.getElem?_eq_getElem (by omega)
    show wipe ((wipe σ vs).set j (some x)) vs = wipe σ vs ∧ te ((wipe σ vs).set j (some x)) (upd H p (.lst (ys.take i)))
      (fun y H4 => ∃ acc, H4 p = some (.lst acc) ∧ acc.length < sizeLine ∧ upd H4 p (.lst (acc ++ [y])) = upd H p (.lst (ys.take (i + 1))))
    refine ⟨hw _, he i x _ _ _ hx hy (same_upd hp) ⟨_, upd_same, ?_, ?_⟩⟩
    · rw [List.length_take]
      exact Nat.lt_of_lt_of_le (show min i ys.length < 16777216 by omega) (by rw [sizeLine_eq]; exact Nat.le_refl _)
    · rw [upd_upd, List.take_add_one, hy]
      rfl) fun H' e => by
    subst e
    refine q p _ hp (same_upd hp) ?_
    rw [upd_same, List.take_of_length_le (by omega)]
/-- x // (1 << k) -/
def rDivP : R2 := fun x y H Q => ∃ (i : Int) (k : Nat), x = .int i ∧ y = .int (1 * 2 ^ k) ∧ k ≤ 5000 ∧ Q (.int (i / 2 ^ k)) H
theorem op_divP {X : Cx} : OpR X (binaryOp .FloorDiv) rDivP := by
  intro pins s σ H x y v u Q I rx ry h
  obtain ⟨i, k, rfl, rfl, hk, q⟩ := h
  refine op_fdivW pins s σ H _ _ v u Q I rx ry ⟨_, _, rfl, rfl, ?_, ?_⟩
  · refine wide_div (b := k + 1) (by rw [Int.one_mul]; exact p2pos k) ?_ (Nat.succ_pos _) (by omega)
    rw [abs_pow]
    exact Nat.pow_lt_pow_right (by decide) (Nat.lt_succ_self k)
  · show Q (.int (i / (1 * 2 ^ k))) H
    rw [Int.one_mul]
    exact q
theorem w_divP {H : Hp} {Q : VK} {i : Int} {k : Nat} (h : k ≤ 5000) (q : Q (.int (i / 2 ^ k)) H) : rDivP (.int i) (.int (1 * 2 ^ k)) H Q := ⟨i, k, rfl, rfl, h, q⟩
theorem hp_upd {H : Hp} {a b : Addr} {o u : HO} (ne : b ≠ a) (h : H b = some o) : upd H a u b = some o := by rw [upd_ne ne]; exact h
theorem hp_upd2 {H : Hp} {a b : Addr} {o u : HO} (ne : a ≠ b) (h : H b = some o) : upd H a u b = some o := hp_upd ne.symm h
/-- a comprehension over a range, of whose elements something is known -/
theorem lc_rx {σ : L2.St} {H : Hp} {Q : VK} {te : TE} {vs : List Nat} {lo : Int} {n j : Nat} (P : V → Prop) (hn : n < 1000000) (hw : ∀ x, wipe ((wipe σ vs).set j (some x)) vs = wipe σ vs)
    (he : ∀ (i : Nat) H' (Q' : VK), i < n → Same H H' → (∀ y, P y → Q' y H') → te ((wipe σ vs).set j (some (.int (lo + (i : Int))))) H' Q')
    (q : ∀ ys p H', ys.length = n → (∀ y ∈ ys, P y) → H p = none → Same H H' → H' p = some (.lst ys) → Q (.ref p) H') : LcB (Itr lo n) (gName j) tYes te vs σ Q H := fun p hp =>
  lc_range (lo := lo) (n := n) (fun i H' => ∃ ys : List V, ys.length = i ∧ (∀ y ∈ ys, P y) ∧ H' = upd H p (.lst ys)) ⟨[], rfl, fun y h => (by cases h), rfl⟩ (fun i H' hi e => by
    obtain ⟨ys, hl, hP, rfl⟩ := e
    show wipe ((wipe σ vs).set j (some (V.int (lo + (i : Int))))) vs = wipe σ vs ∧ te ((wipe σ vs).set j (some (V.int (lo + (i : Int))))) (upd H p (.lst ys))
      (fun y H4 => ∃ acc, H4 p = some (.lst acc) ∧ acc.length < sizeLine ∧ ∃ zs : List V, zs.length = i + 1 ∧ (∀ y ∈ zs, P y) ∧ upd H4 p (.lst (acc ++ [y])) = upd H p (.lst zs))
    refine ⟨hw _, he i _ _ hi (same_upd hp) fun y hy => ⟨ys, upd_same, ?_, ys ++ [y], ?_, ?_, ?_⟩⟩
    · exact Nat.lt_of_lt_of_le (show ys.length < 16777216 by omega) (by rw [sizeLine_eq]; exact Nat.le_refl _)
    · rw [List.length_append, hl]
      rfl
    · intro z hz
      rcases List.mem_append.mp hz with k | k
      · exact hP z k
      · rw [List.mem_singleton.mp k]
        exact hy
    · rw [upd_upd]) fun H' e => by
    obtain ⟨ys, hl, hP, rfl⟩ := e
    exact q ys p _ hl hP hp (same_upd hp) upd_same
/-- .. over a list -/
theorem lc_lx {K : PySem.W.Frag} {σ : L2.St} {H : Hp} {Q : VK} {te : TE} {vs : List Nat} {a : Addr} {j : Nat} (xs : List V) (P : V → Prop) (hS : SqL K H a xs) (hz : xs.length ≤ 1000000) (hw : ∀ x, wipe ((wipe σ vs).set j (some x)) vs = wipe σ vs)
    (he : ∀ (i : Nat) x H' (Q' : VK), xs[i]? = some x → Same H H' → (∀ y, P y → Q' y H') → te ((wipe σ vs).set j (some x)) H' Q')
    (q : ∀ ys p H', ys.length = xs.length → (∀ y ∈ ys, P y) → H p = none → Same H H' → H' p = some (.lst ys) → Q (.ref p) H') : LcB (Itl K a) (gName j) tYes te vs σ Q H := fun p hp =>
  lc_list (xs := xs) (fun i H' => ∃ ys : List V, ys.length = i ∧ (∀ y ∈ ys, P y) ∧ H' = upd H p (.lst ys)) ⟨[], rfl, fun y h => (by cases h), rfl⟩ (fun i H' _ e => by
    obtain ⟨ys, hl, hP, rfl⟩ := e
    exact (same_upd hp).seq hS) (fun i x H' hx e => by
    obtain ⟨ys, hl, hP, rfl⟩ := e
    have hi := (List.getElem?_eq_some_iff.mp hx).1
    show wipe ((wipe σ vs).set j (some x)) vs = wipe σ vs ∧ te ((wipe σ vs).set j (some x)) (upd H p (.lst ys))
      (fun y H4 => ∃ acc, H4 p = some (.lst acc) ∧ acc.length < sizeLine ∧ ∃ zs : List V, zs.length = i + 1 ∧ (∀ y ∈ zs, P y) ∧ upd H4 p (.lst (acc ++ [y])) = upd H p (.lst zs))
    refine ⟨hw _, he i x _ _ hx (same_upd hp) fun y hy => ⟨ys, upd_same, ?_, ys ++ [y], ?_, ?_, ?_⟩⟩
    · exact Nat.lt_of_lt_of_le (show ys.length < 16777216 by omega) (by rw [sizeLine_eq]; exact Nat.le_refl _)
    · rw [List.length_append, hl]
      rfl
    · intro z hz
      rcases List.mem_append.mp hz with k | k
      · exact hP z k
      · rw [List.mem_singleton.mp k]
        exact hy
    · rw [upd_upd]) fun H' e => by
    obtain ⟨ys, hl, hP, rfl⟩ := e
    exact q ys p _ hl hP hp (same_upd hp) upd_same
/-- values that are all of one form -/
theorem all_map {α : Type} {f : α → V} {R : α → Prop} : ∀ {ys : List V}, (∀ y ∈ ys, ∃ x, y = f x ∧ R x) → ∃ xs : List α, ys = xs.map f ∧ ∀ x ∈ xs, R x
  | [], _ => ⟨[], rfl, fun x h => by cases h⟩
  | y :: r, h => by
    obtain ⟨x, rfl, hx⟩ := h y (List.mem_cons_self ..)
    obtain ⟨xs, rfl, hr⟩ := all_map (f := f) (R := R) fun z hz => h z (List.mem_cons_of_mem _ hz)
    exact ⟨x :: xs, rfl, fun z hz => by
      rcases List.mem_cons.mp hz with e | e
      · rw [e]; exact hx
      · exact hr z e⟩
/-- int(a truth value) -/
def rIntB : List V → Hp → VK → Prop := fun xs H Q => ∃ k : Bool, xs = [.bl k] ∧ Q (.int (if k then 1 else 0)) H
theorem c_intB {X : Cx} : CallR X (.type "int") rIntB := by
  intro pins s σ H xs us Q I r h
  obtain ⟨k, rfl, q⟩ := h
  exact call_int1 pins s σ H _ us Q I r (.inr ⟨k, rfl, q⟩)
theorem w_intB {H : Hp} {Q : VK} {k : Bool} (q : Q (.int (if k then 1 else 0)) H) : rIntB [.bl k] H Q := ⟨k, rfl, q⟩
theorem w_ixS {z : Str} {i : Int} {c : Nat} {H : Hp} {Q : VK} (hz : z.length ≤ 1000000) (h : atI z.cps.toList i = some c) (q : Q (.str ⟨#[c]⟩) H) : rIxS (.str z) (.int i) H Q :=
  ⟨z, i, c, rfl, rfl, Nat.le_trans hz (by rw [sizeLine_eq]; decide), h, q⟩
theorem w_slS {z : Str} {lo hi : Option Int} {H : Hp} {Q : VK} (hz : z.length ≤ 1000000) (q : Q (.str (cutS z lo hi)) H) : rSlS (.str z) lo hi H Q := ⟨z, rfl, Nat.le_trans hz (by rw [sizeLine_eq]; decide), q⟩
/-- ''.join -/
def rJoin (K : PySem.W.Frag) : V → List V → Hp → VK → Prop := fun x xs H Q => ∃ a p, ∃ ys : List Str, x = .str a ∧ xs = [.ref p] ∧ (SqL K H p (ys.map V.str) ∨ SqT K H p (ys.map V.str)) ∧
    (ys.map (·.length)).sum + ys.length * a.length ≤ 16777216 ∧ Q (.str (Txt.join a ys)) H
theorem p_join {X : Cx} {o e : Expr} {to te : TE} {apos pos : Pos} (K : PySem.W.Frag) (ho : PE X o to) (he : PE X e te) (hs : starEach [e] X.env = [(false, eval e X.env)] := by rfl) (hbase : attributeBase o "join" X.env (eval o X.env) = eval o X.env := by rfl) (hline : (apos.endLine == pos.line) = true := by rfl) (hK : X.K = K := by rfl) :
    PE X (.Call (.Attribute o "join" apos) [e] [] pos) (tM1 (rJoin K) to te) := by
  subst hK
  exact pe_join ho he hs hbase hline
def M11 (f : V → List V → Hp → VK → Prop) (te : TE) (σ : L2.St) (Q : VK) (x : V) (H1 : Hp) : Prop := (∃ a, x = .str a) ∧ te σ H1 fun y H2 => f x [y] H2 Q
theorem w_tm1 {f : V → List V → Hp → VK → Prop} {to te : TE} {σ : L2.St} {H : Hp} {Q : VK} (h : to σ H fun x H1 => M11 f te σ Q x H1) : tM1 f to te σ H Q := h
theorem w_M11 {f : V → List V → Hp → VK → Prop} {te : TE} {σ : L2.St} {H : Hp} {Q : VK} {a : Str} (h : te σ H fun y H2 => f (.str a) [y] H2 Q) : M11 f te σ Q (.str a) H := ⟨⟨a, rfl⟩, h⟩
theorem w_join {K : PySem.W.Frag} {H : Hp} {Q : VK} {a : Str} {p : Addr} {ys : List Str} (h : SqL K H p (ys.map V.str)) (hz : (ys.map (·.length)).sum + ys.length * a.length ≤ 16777216) (q : Q (.str (Txt.join a ys)) H) : rJoin K (.str a) [.ref p] H Q :=
  ⟨a, p, ys, rfl, rfl, .inl h, hz, q⟩
/-! x in a list, in a tuple -/
theorem w_inL {K : PySem.W.Frag} {H : Hp} {Q : VK} {x : V} {p : Addr} {xs : List V} (h : SqL K H p xs) (hx : flatV x = true) (ha : xs.all flatV = true) (q : Q (.bl (inV x xs)) H) : rIn K false x (.ref p) H Q := ⟨p, xs, rfl, .inl h, hx, ha, q⟩
theorem w_inT {K : PySem.W.Frag} {H : Hp} {Q : VK} {x : V} {p : Addr} {xs : List V} (h : SqT K H p xs) (hx : flatV x = true) (ha : xs.all flatV = true) (q : Q (.bl (inV x xs)) H) : rIn K false x (.ref p) H Q := ⟨p, xs, rfl, .inr h, hx, ha, q⟩
theorem op_inK {X : Cx} (K : PySem.W.Frag) (e : X.K = K := by rfl) : OpR X (compareOp .In) (rIn K false) := by subst e; exact op_in_seq
theorem w_niL {K : PySem.W.Frag} {H : Hp} {Q : VK} {x : V} {p : Addr} {xs : List V} (h : SqL K H p xs) (hx : flatV x = true) (ha : xs.all flatV = true) (q : Q (.bl (!inV x xs)) H) : rIn K true x (.ref p) H Q := ⟨p, xs, rfl, .inl h, hx, ha, q⟩
theorem w_niT {K : PySem.W.Frag} {H : Hp} {Q : VK} {x : V} {p : Addr} {xs : List V} (h : SqT K H p xs) (hx : flatV x = true) (ha : xs.all flatV = true) (q : Q (.bl (!inV x xs)) H) : rIn K true x (.ref p) H Q := ⟨p, xs, rfl, .inr h, hx, ha, q⟩
theorem op_niK {X : Cx} (K : PySem.W.Frag) (e : X.K = K := by rfl) : OpR X (compareOp .NotIn) (rIn K true) := by subst e; exact op_notIn_seq
end Dpr

namespace Dpr
open PySem PySem.Spec PyProof.Rows L2 PySem.SeqAt
open MeetsSeq MeetsSeq2 MeetsSeq3 SeqRoads2
/-! != of two lists whose items are alike -/
abbrev LstO (d : Option Addr) (xs : Array Value) (n : Nat) (z : Array (Option Value)) : Obj := { cls := .type "list", dict := d, data := .seq xs n, slots := z }
theorem unlike_loop {pr : Program} {wd : World} {p q : Addr} {xs ys : Array Value} {n m : Nat} {d d' : Option Addr} {z z' : Array (Option Value)} (same : xs.size = ys.size) : ∀ (left i : Nat), xs.size - i = left →
    MeetsIn pr wd (Builtin.«list.__eq__.loop» ⟨[.ref p, .ref q, rawInt i, rawInt 3], []⟩) fun A R s => s.heap.get? p = some (LstO d xs n z) ∧ s.heap.get? q = some (LstO d' ys m z') ∧
      (∀ j (u : j < xs.size) (v : j < ys.size), EqP pr wd A.in1 s xs[j] ys[j] true) ∧ R (.ok (.ret (.bool false))) s := by
  intro left
  induction left with
  | zero =>
    intro i gone A R st ⟨gp, gq, alike, r⟩
    obtain ⟨hp, gl, dd, tk, os⟩ := st
    wp_walk using AutoSeq1.wpAny_loadPart' gp, AutoSeq1.wpAny_loadPart' gq
    have n1 : xs[((i : Nat) : Int).toNat]? = none := Array.getElem?_eq_none (by rw [Int.toNat_natCast]; omega)
    have n2 : ys[((i : Nat) : Int).toNat]? = none := Array.getElem?_eq_none (by rw [Int.toNat_natCast]; omega)
    rw [n1, n2]
    wp_walk using AutoSeq1.wpAny_loadPart' gp, AutoSeq1.wpAny_loadPart' gq
    show R (.ok (.ret (.bool (xs.size != ys.size)))) _
    rw [same, bne_self_eq_false]
    exact r
  | succ left again =>
    intro i gone A R st ⟨gp, gq, alike, r⟩
    obtain ⟨hp, gl, dd, tk, os⟩ := st
    wp_walk using AutoSeq1.wpAny_loadPart' gp, AutoSeq1.wpAny_loadPart' gq
    have u : i < xs.size := by omega
    have v : i < ys.size := by omega
    have n1 : xs[((i : Nat) : Int).toNat]? = some xs[i] := by rw [Int.toNat_natCast]; exact Array.getElem?_eq_getElem u
    have n2 : ys[((i : Nat) : Int).toNat]? = some ys[i] := by rw [Int.toNat_natCast]; exact Array.getElem?_eq_getElem v
    rw [n1, n2]
    refine wpAny_bind (alike i u v _ _ ?_)
    wp_walk
    rw [show ((i : Int) + 1) = ((i + 1 : Nat) : Int) from rfl]
    exact ⟨plainId_quiet plain_eq_loop _, codeAny_builtin entry_eq_loop (by rw [Around.under_plainId plain_eq_loop _]; exact again (i + 1) (by omega) A R _ ⟨gp, gq, alike, r⟩)⟩
theorem unlike_list {pr : Program} {wd : World} {p q : Addr} {xs ys : Array Value} {n m : Nat} {d d' : Option Addr} {z z' : Array (Option Value)} (same : xs.size = ys.size) :
    MeetsIn pr wd (Builtin.«list.__ne__» ⟨[.ref p, .ref q], []⟩) fun A R s => s.heap.get? p = some (LstO d xs n z) ∧ s.heap.get? q = some (LstO d' ys m z') ∧
      (∀ j (u : j < xs.size) (v : j < ys.size), EqP pr wd A.in1 s xs[j] ys[j] true) ∧ R (.ok (.ret (.bool false))) s := by
  intro A R st ⟨gp, gq, alike, r⟩
  obtain ⟨hp, gl, dd, tk, os⟩ := st
  have sub := AutoSeq1.sub_list_list
  have nosz : ¬ (xs.size != ys.size) = true := by rw [same, bne_self_eq_false]; exact Bool.false_ne_true
  wp_walk using AutoSeq1.wpAny_loadPart' gp, AutoSeq1.wpAny_loadPart' gq
  exact ⟨plainId_quiet plain_eq_loop _, codeAny_builtin entry_eq_loop (by rw [Around.under_plainId plain_eq_loop _]; exact unlike_loop same _ 0 rfl A R _ ⟨gp, gq, alike, r⟩)⟩
theorem rc_unlike {pr : Program} {wd : World} {A : Around} {s : Shared} {p q : Addr} {xs ys : Array Value} (lp : s.heap.IsList p xs) (lq : s.heap.IsList q ys) (same : xs.size = ys.size) (room : A.units < cLine)
    (alike : ∀ j (u : j < xs.size) (v : j < ys.size), EqP pr wd A.in1 s xs[j] ys[j] true) (E Q : Value → Shared → Prop) (h : Q (.bool false) s) : wpAny (model pr wd) A (richCompare .NotEq (.ref p) (.ref q)) Q E s := by
  obtain ⟨⟨c, d, t, z⟩, gp, cp, n, tp⟩ := id lp
  obtain ⟨⟨c', d', t', z'⟩, gq, cq, m, tq⟩ := id lq
  simp only at cp tp cq tq
  subst cp tp cq tq
  have ip : s.TypeIs (.ref p) "list" := ⟨_, gp, rfl⟩
  have iq : s.TypeIs (.ref q) "list" := ⟨_, gq, rfl⟩
  exact wpAny_richCompare_same_room (op := .NotEq) ip iq F.slot_list_ne (call_meetsIn F.slot_list_ne ip F.entry_list_ne (F.args_list_ne_2 _ _) (unlike_list same) ⟨gp, gq, alike, show Value.bool false ≠ Value.notImplemented ∧ Q (.bool false) s from ⟨(fun z => nomatch z), h⟩⟩) room
/-- a != b, two lists of alike items -/
def rNeV (K : PySem.W.Frag) : R2 := fun x y H Q => ∃ n, n ≤ 60 ∧ (∃ a b xs ys, x = .ref a ∧ y = .ref b ∧ SqL K H a xs ∧ SqL K H b ys ∧ Paired (EqV K H n) xs ys) ∧ Q (.bl false) H
theorem op_neV {X : Cx} (hu : X.A.units + 64 < cLine) (K : PySem.W.Frag) (e : X.K = K := by rfl) : OpR X (compareOp .NotEq) (rNeV K) := by
  subst e
  intro pins s σ H x y v u Q I rx ry h
  obtain ⟨n, hn, ⟨a, b, xs, ys, rfl, rfl, ha, hb, hp⟩, q⟩ := h
  cases (show v = Value.ref a from rx)
  cases (show u = Value.ref b from ry)
  obtain ⟨us, r1, p1, _⟩ := I.list ha
  obtain ⟨ws, r2, p2, _⟩ := I.list hb
  have sz : us.toArray.size = ws.toArray.size := by
    rw [List.size_toArray, List.size_toArray, ← r1.length, ← r2.length]
    exact Paired.length hp
  refine rc_unlike p1.isList p2.isList sz (by omega) (fun j u v => ?_) _ _ ⟨.bl false, H, I, rfl, q⟩
  have k := items_run (eqV_run I n X.A.in1 (by show X.A.units + 1 + n < cLine; omega)) hp r1 r2 j (by simpa using u) (by simpa using v)
  simpa using k
end Dpr

namespace Dpr
open PySem PySem.Spec PyProof.Rows L2
/-! ### rows of gates -/
inductive Bop where
  | and | or | xor
  deriving DecidableEq
inductive Row where
  | fix (b : Int) | inn (n : Str) (k : Nat) | inv (a : Nat) | bin (o : Bop) (a b : Nat) | lat (a : Nat)
  deriving DecidableEq
def bopS : Bop → Str
  | .and => "and" | .or => "or" | .xor => "xor"
def rowV : Row → List V
  | .fix b => [.str "fix", .int b]
  | .inn n k => [.str "in", .str n, .int (k : Int)]
  | .inv a => [.str "not", .int (a : Int)]
  | .bin o a b => [.str (bopS o), .int (a : Int), .int (b : Int)]
  | .lat a => [.str "latch", .int (a : Int)]
def RowAt (H : Hp) (p : Addr) (r : Row) : Prop := H p = some (.tup (rowV r))
/-- a list of rows that may be read -/
def RowsL (K : PySem.W.Frag) (H : Hp) (a : Addr) (rs : List Row) : Prop := ∃ ps : List Addr, SqL K H a (ps.map V.ref) ∧ A2 (RowAt H) ps rs
/-- one of our own, that may change -/
def RowsM (H : Hp) (a : Addr) (rs : List Row) : Prop := ∃ ps : List Addr, H a = some (.lst (ps.map V.ref)) ∧ A2 (RowAt H) ps rs
theorem RowsL.same {K : PySem.W.Frag} {H H' : Hp} {a : Addr} {rs : List Row} (s : Same H H') (h : RowsL K H a rs) : RowsL K H' a rs := by
  obtain ⟨ps, h1, h2⟩ := h
  exact ⟨ps, s.seq h1, h2.mono fun p r e => s _ _ e⟩
theorem RowsM.same {H H' : Hp} {a : Addr} {rs : List Row} (s : Same H H') (h : RowsM H a rs) : RowsM H' a rs := by
  obtain ⟨ps, h1, h2⟩ := h
  exact ⟨ps, s _ _ h1, h2.mono fun p r e => s _ _ e⟩
theorem RowsM.read {K : PySem.W.Frag} {H : Hp} {a : Addr} {rs : List Row} (h : RowsM H a rs) : RowsL K H a rs := by
  obtain ⟨ps, h1, h2⟩ := h
  exact ⟨ps, SqL.of h1, h2⟩
/-! numbers by names -/
def wkv (ws : List (Str × Int)) : List (Key × V) := ws.map fun p => (Sum.inr p.1, V.int p.2)
def lookW (ws : List (Str × Int)) (n : Str) : Option Int := (ws.find? fun p => decide (p.1 = n)).map (·.2)
theorem valV_wkv (n : Str) : ∀ ws : List (Str × Int), valV (wkv ws) (Sum.inr n) = (lookW ws n).map V.int
  | [] => rfl
  | p :: r => by
    have ih := valV_wkv n r
    by_cases e : p.1 = n
    · rw [show wkv (p :: r) = (Sum.inr p.1, V.int p.2) :: wkv r from rfl, valV_pos (by rw [e])]
      unfold lookW
      rw [List.find?_cons_of_pos (by simpa using e)]
      rfl
    · rw [show wkv (p :: r) = (Sum.inr p.1, V.int p.2) :: wkv r from rfl, valV_neg (fun z => e (Sum.inr.inj z)), ih]
      unfold lookW
      rw [List.find?_cons_of_neg (by simpa using e)]
theorem lookW_hit {n : Str} {v : Int} {ws : List (Str × Int)} : lookW ((n, v) :: ws) n = some v := by
  unfold lookW
  rw [List.find?_cons_of_pos (by simp)]
  rfl
theorem lookW_skip {m n : Str} {v : Int} {ws : List (Str × Int)} (h : decide (m = n) = false) : lookW ((m, v) :: ws) n = lookW ws n := by
  unfold lookW
  rw [List.find?_cons_of_neg (by simpa using h)]
/-! what a gate tells -/
def bopI (o : Bop) (x y : Int) : Int := match o with
  | .and => x * y
  | .or => x + y - x * y
  | .xor => (x + y) % 2
def gateI (ws : List (Str × Int)) (bits : List Int) : Row → Int
  | .fix b => b
  | .inn n k => (lookW ws n).getD 0 / 2 ^ k % 2
  | .inv a => 1 - bits.getD a 0
  | .bin o a b => bopI o (bits.getD a 0) (bits.getD b 0)
  | .lat _ => 0
def is01 (x : Int) : Prop := x = 0 ∨ x = 1
def RowOk (N : Str → Prop) (n : Nat) : Row → Prop
  | .fix b => is01 b
  | .inn m k => N m ∧ k < 64
  | .inv a => a < n
  | .bin _ a b => a < n ∧ b < n
  | .lat a => a < n
def noLat : Row → Prop
  | .lat _ => False
  | _ => True
def RowsOk (N : Str → Prop) (rs : List Row) : Prop := ∀ (i : Nat) r, rs[i]? = some r → RowOk N i r
def NoLats (rs : List Row) : Prop := ∀ r ∈ rs, noLat r
/-- all names have numbers -/
def Has (N : Str → Prop) (ws : List (Str × Int)) : Prop := ∀ n, N n → ∃ v, lookW ws n = some v
def toldL (ws : List (Str × Int)) (rs : List Row) : List Int := rs.foldl (fun bits r => bits ++ [gateI ws bits r]) []
theorem toldL_snoc (ws : List (Str × Int)) (rs : List Row) (r : Row) : toldL ws (rs ++ [r]) = toldL ws rs ++ [gateI ws (toldL ws rs) r] := by
  unfold toldL
  rw [List.foldl_append]
  rfl
theorem take_snoc {α : Type} {xs : List α} {i : Nat} {x : α} (h : xs[i]? = some x) : xs.take (i + 1) = xs.take i ++ [x] := by
  rw [List.take_add_one, h]
  rfl
theorem toldL_len (ws : List (Str × Int)) (rs : List Row) : (toldL ws rs).length = rs.length := by
  have key : ∀ (rs : List Row) (acc : List Int), (rs.foldl (fun bits r => bits ++ [gateI ws bits r]) acc).length = acc.length + rs.length := by
    intro rs
    induction rs with
    | nil => intro acc; rfl
    | cons r rs ih =>
      intro acc
      rw [List.foldl_cons, ih, List.length_append, List.length_singleton, List.length_cons]
      omega
  unfold toldL
  rw [key]
  exact Nat.zero_add _
def All01 (bs : List Int) : Prop := ∀ x ∈ bs, is01 x
theorem all01_get {bs : List Int} (h : All01 bs) (i : Nat) : is01 (bs.getD i 0) := by
  rw [List.getD_eq_getElem?_getD]
  cases e : bs[i]? with
  | none => exact .inl rfl
  | some x => exact h x (List.mem_of_getElem? e)
theorem bopI_01 (o : Bop) {x y : Int} (hx : is01 x) (hy : is01 y) : is01 (bopI o x y) := by
  unfold is01 at *
  cases o <;> unfold bopI <;> rcases hx with rfl | rfl <;> rcases hy with rfl | rfl <;> decide
theorem gateI_01 {N : Str → Prop} {n : Nat} {r : Row} (ws : List (Str × Int)) {bs : List Int} (h : All01 bs) (ok : RowOk N n r) : is01 (gateI ws bs r) := by
  cases r with
  | fix b => exact ok
  | inn m k =>
    show (lookW ws m).getD 0 / 2 ^ k % 2 = 0 ∨ (lookW ws m).getD 0 / 2 ^ k % 2 = 1
    omega
  | inv a =>
    have q : bs.getD a 0 = 0 ∨ bs.getD a 0 = 1 := all01_get h a
    show 1 - bs.getD a 0 = 0 ∨ 1 - bs.getD a 0 = 1
    omega
  | bin o a b => exact bopI_01 o (all01_get h a) (all01_get h b)
  | lat a => exact .inl rfl
theorem toldL_01 {N : Str → Prop} (ws : List (Str × Int)) {rs : List Row} (ok : RowsOk N rs) : ∀ i, All01 (toldL ws (rs.take i))
  | 0 => fun x hx => by cases hx
  | i + 1 => by
    have ih := toldL_01 ws ok i
    cases e : rs[i]? with
    | none =>
      have : rs.take (i + 1) = rs.take i := by rw [List.take_add_one, e]; exact List.append_nil _
      rw [this]
      exact ih
    | some r =>
      rw [take_snoc e, toldL_snoc]
      intro x hx
      rcases List.mem_append.mp hx with q | q
      · exact ih x q
      · rw [List.mem_singleton.mp q]
        exact gateI_01 ws ih (ok i r e)
/-- a bit by its place -/
theorem bit_get {bs : List Int} {a : Nat} (h : a < bs.length) : atI (bs.map V.int) (a : Int) = some (.int (bs.getD a 0)) := by
  rw [get_int h, List.getD_eq_getElem?_getD, List.getElem?_eq_getElem h]
  rfl
/-! rows that are put -/
theorem rowAt_upd {H : Hp} {a p : Addr} {xs ys : List V} {r : Row} (h : H a = some (.lst xs)) (hp : RowAt H p r) : RowAt (upd H a (.lst ys)) p r := by
  have ne : p ≠ a := fun e => by
    rw [e] at hp
    exact absurd (hp.symm.trans h) (fun z => by cases z)
  show upd H a (.lst ys) p = _
  rw [upd_ne ne]
  exact hp
theorem RowsM.push {H : Hp} {a p : Addr} {rs : List Row} {r : Row} {ps : List Addr} (h : H a = some (.lst (ps.map V.ref))) (hA : A2 (RowAt H) ps rs) (hp : RowAt H p r) : RowsM (upd H a (.lst (ps.map V.ref ++ [.ref p]))) a (rs ++ [r]) :=
  ⟨ps ++ [p], by rw [upd_same, List.map_append]; rfl, (hA.mono fun _ _ e => rowAt_upd h e).snoc (rowAt_upd h hp)⟩
theorem RowsM.upd {H : Hp} {a b : Addr} {rs : List Row} {xs ys : List V} (ne : a ≠ b) (h : H b = some (.lst xs)) (hr : RowsM H a rs) : RowsM (upd H b (.lst ys)) a rs := by
  obtain ⟨ps, h1, h2⟩ := hr
  exact ⟨ps, by rw [upd_ne ne]; exact h1, h2.mono fun _ _ e => rowAt_upd h e⟩
theorem RowsM.len {H : Hp} {a : Addr} {rs : List Row} (h : RowsM H a rs) : ∃ ps : List Addr, H a = some (.lst (ps.map V.ref)) ∧ A2 (RowAt H) ps rs ∧ ps.length = rs.length := by
  obtain ⟨ps, h1, h2⟩ := h
  exact ⟨ps, h1, h2, h2.1⟩
theorem RowsOk.snoc {N : Str → Prop} {rs : List Row} {r : Row} (h : RowsOk N rs) (k : RowOk N rs.length r) : RowsOk N (rs ++ [r]) := by
  intro i x hx
  rcases Nat.lt_trichotomy i rs.length with q | q | q
  · rw [List.getElem?_append_left q] at hx
    exact h i x hx
  · subst q
    rw [List.getElem?_append_right (Nat.le_refl _), Nat.sub_self] at hx
    cases hx
    exact k
  · rw [List.getElem?_eq_none (by rw [List.length_append]; exact q)] at hx
    cases hx
theorem NoLats.snoc {rs : List Row} {r : Row} (h : NoLats rs) (k : noLat r) : NoLats (rs ++ [r]) := by
  intro x hx
  rcases List.mem_append.mp hx with q | q
  · exact h x q
  · rw [List.mem_singleton.mp q]
    exact k
/-! rows as data -/
def rowD : Row → PyData
  | .fix b => .tuple [.str "fix", .int b]
  | .inn n k => .tuple [.str "in", .str n, .int (k : Int)]
  | .inv a => .tuple [.str "not", .int (a : Int)]
  | .bin o a b => .tuple [.str (bopS o), .int (a : Int), .int (b : Int)]
  | .lat a => .tuple [.str "latch", .int (a : Int)]
theorem dp_row {K : PySem.W.Frag} {H : Hp} {p : Addr} {r : Row} (h : RowAt H p r) : Dp K H (.ref p) (rowD r) := by
  cases r with
  | fix b => exact .tup (SqT.of h) (.cons (.str _) (.cons (.int _) .nil))
  | inn n k => exact .tup (SqT.of h) (.cons (.str _) (.cons (.str _) (.cons (.int _) .nil)))
  | inv a => exact .tup (SqT.of h) (.cons (.str _) (.cons (.int _) .nil))
  | bin o a b => exact .tup (SqT.of h) (.cons (.str _) (.cons (.int _) (.cons (.int _) .nil)))
  | lat a => exact .tup (SqT.of h) (.cons (.str _) (.cons (.int _) .nil))
theorem A2.tail {α β : Type} {R : α → β → Prop} {x : α} {y : β} {xs : List α} {ys : List β} (h : A2 R (x :: xs) (y :: ys)) : R x y ∧ A2 R xs ys :=
  ⟨h.2 0 x y rfl rfl, by have := h.1; simp only [List.length_cons] at this; omega, fun i u v hu hv => h.2 (i + 1) u v hu hv⟩
theorem dp_rows {K : PySem.W.Frag} {H : Hp} : ∀ {ps : List Addr} {rs : List Row}, A2 (RowAt H) ps rs → DpAll K H (ps.map V.ref) (rs.map rowD)
  | [], [], _ => .nil
  | [], _ :: _, h => by have := h.1; simp at this
  | _ :: _, [], h => by have := h.1; simp at this
  | p :: ps, r :: rs, h => .cons (dp_row h.tail.1) (dp_rows h.tail.2)
def NmOk (r : Row) : Prop := match r with
  | .inn n _ => PyData.strOk n = true
  | _ => True
theorem lay_row {r : Row} (h : NmOk r) : PyData.canLay0 (rowD r) = true := by
  cases r with
  | fix b =>
    show (PyData.strOk "fix" && (true && true)) = true
    decide +kernel
  | inn n k =>
    show (PyData.strOk "in" && (PyData.strOk n && (true && true))) = true
    rw [show PyData.strOk n = true from h]
    decide +kernel
  | inv a =>
    show (PyData.strOk "not" && (true && true)) = true
    decide +kernel
  | bin o a b =>
    show (PyData.strOk (bopS o) && (true && (true && true))) = true
    cases o <;> decide +kernel
  | lat a =>
    show (PyData.strOk "latch" && (true && true)) = true
    decide +kernel
theorem lay_rows : ∀ {rs : List Row}, (∀ r ∈ rs, NmOk r) → PyData.canLayAll0 (rs.map rowD) = true
  | [], _ => rfl
  | r :: rs, h => by
    show (PyData.canLay0 (rowD r) && PyData.canLayAll0 (rs.map rowD)) = true
    rw [lay_row (h r (List.mem_cons_self ..)), lay_rows fun x hx => h x (List.mem_cons_of_mem _ hx)]
    rfl
theorem depth_row (r : Row) : PyData.depth (rowD r) ≤ 1 := by
  cases r <;> exact Nat.le_of_ble_eq_true rfl
theorem depth_rows : ∀ rs : List Row, PyData.depthAll (rs.map rowD) ≤ 1
  | [] => Nat.zero_le 1
  | r :: rs => Nat.max_le.mpr ⟨depth_row r, depth_rows rs⟩
theorem shaped_rows {rs : List Row} (h : ∀ r ∈ rs, NmOk r) : SeqAt.shaped (.list (rs.map rowD)) = true := by
  unfold SeqAt.shaped
  rw [show PyData.canLay0 (.list (rs.map rowD)) = true from lay_rows h, Bool.true_and]
  have := depth_rows rs
  exact decide_eq_true (show PyData.depthAll (rs.map rowD) + 1 ≤ 64 by omega)
/-! dicts of numbers compared, copied -/
theorem flat_wkv (ws : List (Str × Int)) : ∀ p ∈ wkv ws, flatB p.2 = true := by
  intro p hp
  obtain ⟨q, _, rfl⟩ := List.mem_map.mp hp
  rfl
theorem valV_self : ∀ {ws : List (Str × Int)}, (ws.map (·.1)).Nodup → ∀ p ∈ wkv ws, valV (wkv ws) p.1 = some p.2
  | [], _, p, hp => by cases hp
  | q :: r, h, p, hp => by
    obtain ⟨h1, h2⟩ := List.nodup_cons.mp (show (q.1 :: r.map (·.1)).Nodup from h)
    rcases List.mem_cons.mp hp with e | e
    · rw [e]
      exact valV_pos rfl
    · have ih := valV_self h2 p e
      obtain ⟨z, hz, rfl⟩ := List.mem_map.mp e
      have ne : ¬ q.1 = z.1 := fun w => h1 (by rw [w]; exact List.mem_map.mpr ⟨z, hz, rfl⟩)
      rw [show wkv (q :: r) = (Sum.inr q.1, V.int q.2) :: wkv r from rfl, valV_neg (fun w => ne (Sum.inr.inj w))]
      exact ih
theorem w_eqDict {H : Hp} {Q : VK} {a b : Addr} {ws : List (Str × Int)} (h1 : H a = some (.dK (wkv ws))) (h2 : H b = some (.dK (wkv ws))) (nd : (ws.map (·.1)).Nodup) (q : Q (.bl true) H) : rEqDA (.ref a) (.ref b) H Q :=
  ⟨a, b, _, _, rfl, rfl, h1, h2, rfl, fun p hp => ⟨valV_self nd p hp, flat_wkv ws p hp⟩, q⟩
theorem w_neDict {H : Hp} {Q : VK} {a b : Addr} {ws : List (Str × Int)} (h1 : H a = some (.dK (wkv ws))) (h2 : H b = some (.dK (wkv ws))) (nd : (ws.map (·.1)).Nodup) (q : Q (.bl false) H) : rNeDA (.ref a) (.ref b) H Q :=
  ⟨a, b, _, _, rfl, rfl, h1, h2, rfl, fun p hp => ⟨valV_self nd p hp, flat_wkv ws p hp⟩, q⟩
def rDictD : List V → Hp → VK → Prop := fun xs H Q => ∃ (a : Addr) (kvs : List (Key × V)), xs = [.ref a] ∧ Rd H a (.dK kvs) ∧ ∀ p, H p = none → Q (.ref p) (upd H p (.dK kvs))
theorem c_dictD {X : Cx} : CallR X (.type "dict") rDictD := call_dictD
theorem w_dictD {H : Hp} {Q : VK} {a : Addr} {kvs : List (Key × V)} (h : H a = some (.dK kvs)) (q : ∀ p H', H p = none → Same H H' → H' p = some (.dK kvs) → Q (.ref p) H') : rDictD [.ref a] H Q :=
  ⟨a, kvs, rfl, .inl h, fun p hp => q p _ hp (same_upd hp) upd_same⟩
/-! a written dict -/
def DspE (p : Addr) (Q : VK) (ps : List (V × V)) (H2 : Hp) : Prop := H2 p = some (.dK []) ∧ ∃ kvs : List (Key × V), ps = kvs.map (fun kv => (kV kv.1, kv.2)) ∧ kvs.length ≤ 15 ∧ Q (.ref p) (upd H2 p (.dK (mergeK [] kvs)))
theorem w_disp {σ : L2.St} {H : Hp} {Q : VK} {trs : List (TE × TE)} (h : ∀ p H', H p = none → Same H H' → H' p = some (.dK []) → tPairs trs σ H' fun ps H2 => DspE p Q ps H2) : tDisp trs σ H Q := fun p hp => h p _ hp (same_upd hp) upd_same
theorem w_pairs {σ : L2.St} {H : Hp} {tk tv : TE} {r : List (TE × TE)} {R : List (V × V) → Hp → Prop} (h : tk σ H fun x H1 => tv σ H1 fun y H2 => tPairs r σ H2 fun ps H3 => R ((x, y) :: ps) H3) : tPairs ((tk, tv) :: r) σ H R := h
theorem w_pairs0 {σ : L2.St} {H : Hp} {R : List (V × V) → Hp → Prop} (h : R [] H) : tPairs [] σ H R := h
theorem w_DspE {p : Addr} {Q : VK} {ps : List (V × V)} {H2 : Hp} (ws : List (Str × Int)) (nd : (ws.map (·.1)).Nodup) (e : H2 p = some (.dK [])) (ep : ps = (wkv ws).map (fun kv => (kV kv.1, kv.2))) (hl : ws.length ≤ 15) (q : ∀ H', H' p = some (.dK (wkv ws)) → (∀ H0, Same H0 H2 → H0 p = none → Same H0 H') → Q (.ref p) H') : DspE p Q ps H2 := by
  refine ⟨e, wkv ws, ep, by rw [wkv, List.length_map]; exact hl, ?_⟩
  have key : ∀ (r acc : List (Str × Int)), ((acc ++ r).map (·.1)).Nodup → mergeK (wkv acc) (wkv r) = wkv (acc ++ r) := by
    intro r
    induction r with
    | nil => intro acc _; rw [List.append_nil]; rfl
    | cons z r ih =>
      intro acc hn
      have hz : valV (wkv acc) (Sum.inr z.1) = none := by
        cases g : valV (wkv acc) (Sum.inr z.1) with
        | none => rfl
        | some v =>
          have m := valV_in g
          obtain ⟨u, hu, eu⟩ := List.mem_map.mp m
          obtain ⟨t, ht, rfl⟩ := List.mem_map.mp hu
          have e1 : t.1 = z.1 := Sum.inr.inj eu
          rw [List.map_append, List.map_cons] at hn
          have d := (List.nodup_append.mp hn).2.2 t.1 (List.mem_map.mpr ⟨t, ht, rfl⟩) z.1 (List.mem_cons_self ..)
          exact absurd e1 d
      show mergeK (putK (wkv acc) (Sum.inr z.1) (V.int z.2)) (wkv r) = _
      rw [putK_new _ hz]
      have e2 : wkv acc ++ [((Sum.inr z.1 : Key), V.int z.2)] = wkv (acc ++ [z]) := by
        unfold wkv
        rw [List.map_append]
        rfl
      rw [e2, ih (acc ++ [z]) (by rw [List.append_assoc]; exact hn), List.append_assoc]
      rfl
  have := key ws [] nd
  rw [show mergeK [] (wkv ws) = wkv ws from this]
  exact q _ upd_same fun H0 s n => same_mut s n
end Dpr

namespace Dpr
open PySem PySem.Spec PyProof.Rows L2
/-! a number put by its name -/
def putW (ws : List (Str × Int)) (n : Str) (v : Int) : List (Str × Int) :=
  if (ws.any fun kv => decide (kv.1 = n)) = true then ws.map (fun kv => if kv.1 = n then (kv.1, v) else kv) else ws ++ [(n, v)]
theorem put_wkv (ws : List (Str × Int)) (n : Str) (v : Int) : putK (wkv ws) (Sum.inr n) (V.int v) = wkv (putW ws n v) := by
  have e : ((wkv ws).any fun kv => decide (kv.1 = (Sum.inr n : Key))) = (ws.any fun kv => decide (kv.1 = n)) := by
    induction ws with
    | nil => rfl
    | cons p r ih =>
      show (decide ((Sum.inr p.1 : Key) = Sum.inr n) || (wkv r).any _) = (decide (p.1 = n) || r.any _)
      rw [ih]
      by_cases e : p.1 = n
      · rw [decide_eq_true e, decide_eq_true (by rw [e])]
      · rw [decide_eq_false e, decide_eq_false (fun z => e (Sum.inr.inj z))]
  unfold putK putW
  rw [e]
  split
  · unfold wkv
    rw [List.map_map, List.map_map]
    refine List.map_congr_left fun p _ => ?_
    show (if (Sum.inr p.1 : Key) = Sum.inr n then ((Sum.inr p.1 : Key), V.int v) else (Sum.inr p.1, V.int p.2)) = _
    by_cases e : p.1 = n
    · rw [if_pos (by rw [e])]
      show _ = (Sum.inr (if p.1 = n then (p.1, v) else p).1, V.int (if p.1 = n then (p.1, v) else p).2)
      rw [if_pos e]
    · rw [if_neg (fun z => e (Sum.inr.inj z))]
      show _ = (Sum.inr (if p.1 = n then (p.1, v) else p).1, V.int (if p.1 = n then (p.1, v) else p).2)
      rw [if_neg e]
  · unfold wkv
    rw [List.map_append]
    rfl
theorem putW_len (ws : List (Str × Int)) (n : Str) (v : Int) : (putW ws n v).length ≤ ws.length + 1 := by
  unfold putW
  split
  · rw [List.length_map]; omega
  · rw [List.length_append, List.length_cons, List.length_nil]; omega
theorem look_put (ws : List (Str × Int)) (n m : Str) (v : Int) : lookW (putW ws n v) m = if m = n then some v else lookW ws m := by
  have e := valV_wkv m (putW ws n v)
  rw [← put_wkv, valV_put, valV_wkv] at e
  by_cases h : m = n
  · rw [if_pos h]
    rw [if_pos (by rw [h])] at e
    cases g : lookW (putW ws n v) m with
    | none => rw [g] at e; cases e
    | some x => rw [g] at e; cases e; rfl
  · rw [if_neg h]
    rw [if_neg (fun z => h (Sum.inr.inj z))] at e
    cases g : lookW (putW ws n v) m with
    | none =>
      rw [g] at e
      cases g2 : lookW ws m with
      | none => rfl
      | some x => rw [g2] at e; cases e
    | some x =>
      rw [g] at e
      cases g2 : lookW ws m with
      | none => rw [g2] at e; cases e
      | some y => rw [g2] at e; cases e; rfl
theorem putW_keys {ws : List (Str × Int)} {n : Str} {v : Int} (h : (ws.any fun kv => decide (kv.1 = n)) = true) : (putW ws n v).map (·.1) = ws.map (·.1) := by
  unfold putW
  rw [if_pos h, List.map_map]
  refine List.map_congr_left fun p _ => ?_
  show (if p.1 = n then (p.1, v) else p).1 = p.1
  split <;> rfl
theorem putW_nodup {ws : List (Str × Int)} (n : Str) (v : Int) (h : (ws.map (·.1)).Nodup) : ((putW ws n v).map (·.1)).Nodup := by
  by_cases e : (ws.any fun kv => decide (kv.1 = n)) = true
  · rw [putW_keys e]
    exact h
  · unfold putW
    rw [if_neg e, List.map_append]
    refine List.nodup_append.mpr ⟨h, List.nodup_cons.mpr ⟨(fun z => by cases z), List.nodup_nil⟩, fun x hx y hy z => ?_⟩
    rw [List.mem_singleton.mp hy] at z
    obtain ⟨p, hp, ep⟩ := List.mem_map.mp hx
    exact e (List.any_eq_true.mpr ⟨p, hp, decide_eq_true (ep.trans z)⟩)
/-- names whose numbers are known -/
theorem has_put {N : Str → Prop} {ws : List (Str × Int)} {n : Str} {v : Int} (h : Has N ws) : Has (fun m => m = n ∨ N m) (putW ws n v) := by
  intro m hm
  rw [look_put]
  by_cases e : m = n
  · exact ⟨v, if_pos e⟩
  · rw [if_neg e]
    exact h m (hm.resolve_left e)
theorem Has.mono {N M : Str → Prop} {ws : List (Str × Int)} (h : Has N ws) (k : ∀ n, M n → N n) : Has M ws := fun n hn => h n (k n hn)
theorem has_keep {N : Str → Prop} {ws : List (Str × Int)} {n : Str} {v : Int} (h : Has N ws) : Has N (putW ws n v) := (has_put h).mono fun _ h => .inr h
def DPutB (D : Ends) (σ : L2.St) (v x y : V) (H3 : Hp) : Prop := ∃ a H4, x = .ref a ∧ DPut H3 a y v H4 ∧ D.nx σ H4
theorem w_dput {D : Ends} {σ : L2.St} {H : Hp} {td ty tv : TE} (h : tv σ H fun v H1 => td σ H1 fun x H2 => ty σ H2 fun y H3 => DPutB D σ v x y H3) : sDPut td ty tv D σ H := h
theorem w_DPutB {D : Ends} {σ : L2.St} {H : Hp} {a : Addr} {ws : List (Str × Int)} {n : Str} {v : Int} (h : H a = some (.dK (wkv ws))) (hl : ws.length ≤ 1000) (q : D.nx σ (upd H a (.dK (wkv (putW ws n v))))) : DPutB D σ (.int v) (.ref a) (.str n) H :=
  ⟨a, _, rfl, .k (k := Sum.inr n) h (by rw [wkv, List.length_map]; exact Nat.lt_of_le_of_lt hl (by rw [sizeLine_eq]; decide)), by rw [put_wkv]; exact q⟩
def rInsert : V → List V → Hp → VK → Prop := fun x vs H Q => ∃ (l : Addr) (xs : List V) (i : Int) (y : V), x = .ref l ∧ vs = [.int i, y] ∧ H l = some (.lst xs) ∧ xs.length < sizeLine ∧ 0 ≤ i ∧ i < 2 ^ 63 ∧ Q .non (upd H l (.lst (xs.take i.toNat ++ [y] ++ xs.drop i.toNat)))
theorem mt_ins0 {X : Cx} : MtR X "list.insert" rInsert := mt_insert
theorem w_insert {H : Hp} {Q : VK} {p : Addr} {xs : List V} {y : V} {i : Int} (e : H p = some (.lst xs)) (hz : xs.length ≤ 1000000) (hi : 0 ≤ i ∧ i ≤ 1000000) (q : Q .non (upd H p (.lst (xs.take i.toNat ++ [y] ++ xs.drop i.toNat)))) : rInsert (.ref p) [.int i, y] H Q :=
  ⟨p, xs, i, y, rfl, rfl, e, Nat.lt_of_le_of_lt hz (by rw [sizeLine_eq]; decide), hi.1, by omega, q⟩
theorem w_dnewK {σ : L2.St} {H : Hp} {Q : VK} (h : ∀ p H', H p = none → Same H H' → H' p = some (.dK (wkv [])) → Q (.ref p) H') : tDNewK σ H Q := fun p hp => h p _ hp (same_upd hp) upd_same
end Dpr

namespace Dpr
open PySem PySem.Spec PyProof.Rows L2
def RevB (R : It → Hp → Prop) (a b : Int) (H1 : Hp) : Prop := -(2 ^ 62) ≤ a ∧ a < 2 ^ 62 ∧ -(2 ^ 62) ≤ b ∧ b < 2 ^ 62 ∧ R (Itc (a + (((b - a).toNat : Nat) : Int) - 1) (-1) (b - a).toNat) H1
def RG1 (R : Int → Int → Hp → Prop) (x : V) (H1 : Hp) : Prop := ∃ i, x = .int i ∧ R 0 i H1
theorem w_revR {σ : L2.St} {H : Hp} {R : It → Hp → Prop} {tr : L2.St → Hp → (Int → Int → Hp → Prop) → Prop} (h : tr σ H (RevB R)) : iRevR tr σ H R := h
theorem w_rg1 {σ : L2.St} {H : Hp} {R : Int → Int → Hp → Prop} {ta : TE} (h : ta σ H (RG1 R)) : tRg1 ta σ H R := h
theorem w_RG1 {R : Int → Int → Hp → Prop} {b : Int} {H : Hp} (q : R 0 b H) : RG1 R (.int b) H := ⟨b, rfl, q⟩
theorem w_RevB {R : It → Hp → Prop} {a b : Int} {H : Hp} (h : -1000000 ≤ a ∧ a ≤ 1000000 ∧ -1000000 ≤ b ∧ b ≤ 1000000) (q : R (Itc (a + (((b - a).toNat : Nat) : Int) - 1) (-1) (b - a).toNat) H) : RevB R a b H := ⟨by omega, by omega, by omega, by omega, q⟩
theorem for_rc {lo c : Int} {n j : Nat} {t : TS} {D : Ends} {σ : L2.St} {H : Hp} (Pv : Nat → L2.St → Hp → Prop) (h0 : Pv 0 σ H)
    (hs : ∀ (i : Nat) σ' H', i < n → Pv i σ' H' → t { D with nx := Pv (i + 1), ct := Pv (i + 1), bk := D.nx } (σ'.set j (some (.int (lo + (i : Nat) * c)))) H') (hd : ∀ σ' H', Pv n σ' H' → D.nx σ' H') : ForB (Itc lo c n) (gName j) t D σ H :=
  for_rangeC Pv h0 hs hd
end Dpr

namespace Dpr
open PySem PySem.Spec PyProof.Rows L2
/-! a row from its second part on, the greatest of a list -/
theorem w_slT1 {K : PySem.W.Frag} {H : Hp} {Q : VK} {p : Addr} {x : V} {r : List V} (h : SqT K H p (x :: r)) (q : ∀ l H', H l = none → Same H H' → H' l = some (.tup r) → Q (.ref l) H') : rSlT K (.ref p) (some 1) none H Q := by
  refine ⟨p, _, rfl, h, fun z => ?_, fun l hl => ?_⟩
  · have e := z.1
    rw [show (1 : Int) = ((1 : Nat) : Int) from rfl, HT.sIx_nat, List.length_cons] at e
    omega
  · have e : cutV (x :: r) (some 1) none = r := cut_from (x :: r) 1 (by rw [List.length_cons]; omega)
    rw [e]
    exact q l _ hl (same_upd hl) upd_same
theorem w_maxL {K : PySem.W.Frag} {H : Hp} {Q : VK} {p : Addr} {ns : List Int} (h : SqL K H p (ns.map V.int)) (hn : 0 < ns.length) (q : ∀ m, m ∈ ns → (∀ y ∈ ns, y ≤ m) → Q (.int m) H) : rMax K [.ref p] H Q := ⟨p, ns, rfl, h, hn, q⟩
theorem c_maxK {X : Cx} (K : PySem.W.Frag) (e : X.K = K := by rfl) (hc : X.calm = true := by rfl) : CallR X (.builtin "max") (rMax K) := by subst e; exact cr_max hc
/-! lists told row by row -/
def runL (f : List Int → Row → Int) (rs : List Row) : List Int := rs.foldl (fun a r => a ++ [f a r]) []
theorem runL_snoc (f : List Int → Row → Int) (rs : List Row) (r : Row) : runL f (rs ++ [r]) = runL f rs ++ [f (runL f rs) r] := by
  unfold runL
  rw [List.foldl_append]
  rfl
theorem runL_len (f : List Int → Row → Int) (rs : List Row) : (runL f rs).length = rs.length := by
  have key : ∀ (rs : List Row) (acc : List Int), (rs.foldl (fun a r => a ++ [f a r]) acc).length = acc.length + rs.length := by
    intro rs
    induction rs with
    | nil => intro acc; rfl
    | cons r rs ih =>
      intro acc
      rw [List.foldl_cons, ih, List.length_append, List.length_singleton, List.length_cons]
      omega
  unfold runL
  rw [key]
  exact Nat.zero_add _
theorem runL_take (f : List Int → Row → Int) (rs : List Row) (i : Nat) : runL f (rs.take i) = (runL f rs).take i := by
  rcases Nat.le_total rs.length i with h | h
  · rw [List.take_of_length_le h, List.take_of_length_le (by rw [runL_len]; exact h)]
  · have key : ∀ (ss acc : List Int) (rs : List Row), ∃ t, rs.foldl (fun a r => a ++ [f a r]) acc = acc ++ t := by
      intro ss acc rs
      induction rs generalizing acc with
      | nil => exact ⟨[], (List.append_nil _).symm⟩
      | cons r rs ih =>
        obtain ⟨t, e⟩ := ih (acc ++ [f acc r])
        exact ⟨[f acc r] ++ t, by rw [List.foldl_cons, e, List.append_assoc]⟩
    obtain ⟨t, e⟩ := key [] (runL f (rs.take i)) (rs.drop i)
    have e2 : runL f rs = runL f (rs.take i) ++ t := by
      rw [← e]
      show rs.foldl _ [] = (rs.drop i).foldl _ ((rs.take i).foldl _ [])
      rw [← List.foldl_append, List.take_append_drop]
    rw [e2, List.take_left' (by rw [runL_len, List.length_take]; omega)]
theorem runL_get (f : List Int → Row → Int) {rs : List Row} {i : Nat} {r : Row} (h : rs[i]? = some r) : (runL f rs)[i]? = some (f ((runL f rs).take i) r) := by
  have hi := (List.getElem?_eq_some_iff.mp h).1
  have e : (runL f rs).take (i + 1) = (runL f rs).take i ++ [f ((runL f rs).take i) r] := by
    rw [← runL_take, take_snoc h, runL_snoc, runL_take]
  have hl : ((runL f rs).take i).length = i := by rw [List.length_take, runL_len]; omega
  have e2 : ((runL f rs).take (i + 1))[i]? = some (f ((runL f rs).take i) r) := by
    rw [e, List.getElem?_append_right (by omega), hl, Nat.sub_self]
    rfl
  rw [List.getElem?_take, if_pos (Nat.lt_succ_self i)] at e2
  exact e2
/-! depths -/
def ownR : Row → List Nat
  | .inv a => [a]
  | .bin _ a b => [a, b]
  | _ => []
def natI (ws : List Nat) : List Int := ws.map fun (z : Nat) => (z : Int)
theorem natI_len (ws : List Nat) : (natI ws).length = ws.length := List.length_map ..
theorem natI_get {ws : List Nat} {i : Nat} {x : Int} (h : (natI ws)[i]? = some x) : ∃ z : Nat, ws[i]? = some z ∧ x = (z : Int) := by
  unfold natI at h
  rw [List.getElem?_map] at h
  cases e : ws[i]? with
  | none => rw [e] at h; cases h
  | some y => rw [e] at h; exact ⟨y, rfl, (Option.some.inj h).symm⟩
def top2 (x y : Int) : Int := if y > x then y else x
def deepI (ds : List Int) (r : Row) : Int := (ownR r).foldl (fun d w => top2 d (ds.getD w 0 + 1)) 0
def depthL (rs : List Row) : List Int := runL deepI rs
theorem own_lt {N : Str → Prop} {i : Nat} {r : Row} (h : RowOk N i r) : ∀ w ∈ ownR r, w < i := by
  intro w hw
  cases r with
  | inv a => rw [List.mem_singleton.mp hw]; exact h
  | bin o a b =>
    rcases List.mem_cons.mp hw with e | e
    · rw [e]; exact h.1
    · rw [List.mem_singleton.mp e]; exact h.2
  | _ => cases hw
theorem own_len (r : Row) : (ownR r).length ≤ 2 := by
  cases r <;> exact Nat.le_of_ble_eq_true rfl
theorem top_of (g : Nat → Int) : ∀ (ws : List Nat) (x m : Int), m ∈ x :: ws.map g → (∀ y ∈ x :: ws.map g, y ≤ m) → m = ws.foldl (fun d w => top2 d (g w)) x
  | [], x, m, h, _ => List.mem_singleton.mp h
  | w :: r, x, m, h, hm => by
    show m = r.foldl (fun d w => top2 d (g w)) (top2 x (g w))
    have a1 := hm x (List.mem_cons_self ..)
    have a2 := hm (g w) (List.mem_cons_of_mem _ (List.mem_cons_self ..))
    refine top_of g r _ m ?_ fun y hy => ?_
    · unfold top2
      rcases List.mem_cons.mp h with e | e
      · subst e
        rw [if_neg (by omega)]
        exact List.mem_cons_self ..
      · rcases List.mem_cons.mp e with e | e
        · by_cases c : g w > x
          · rw [if_pos c, e]
            exact List.mem_cons_self ..
          · rw [if_neg c, show m = x by omega]
            exact List.mem_cons_self ..
        · exact List.mem_cons_of_mem _ e
    · rcases List.mem_cons.mp hy with e | e
      · rw [e]
        unfold top2
        split
        · exact a2
        · exact a1
      · exact hm y (List.mem_cons_of_mem _ (List.mem_cons_of_mem _ e))
end Dpr

namespace Dpr
open PySem PySem.Spec PyProof.Rows L2
/-! ways -/
def dep (rs : List Row) (x : Nat) : Int := (depthL rs).getD x 0
theorem fold_top (g : Nat → Int) : ∀ (ws : List Nat) (x : Int), ws.foldl (fun d w => top2 d (g w)) x = x ∨ ∃ w ∈ ws, ws.foldl (fun d w => top2 d (g w)) x = g w
  | [], x => .inl rfl
  | w :: r, x => by
    show r.foldl (fun d w => top2 d (g w)) (top2 x (g w)) = x ∨ ∃ z ∈ w :: r, r.foldl (fun d w => top2 d (g w)) (top2 x (g w)) = g z
    rcases fold_top g r (top2 x (g w)) with e | ⟨z, hz, e⟩
    · rw [e]
      unfold top2
      split
      · exact .inr ⟨w, List.mem_cons_self .., rfl⟩
      · exact .inl rfl
    · exact .inr ⟨z, List.mem_cons_of_mem _ hz, e⟩
theorem fold_top_le (g : Nat → Int) : ∀ (ws : List Nat) (x : Int), x ≤ ws.foldl (fun d w => top2 d (g w)) x ∧ ∀ w ∈ ws, g w ≤ ws.foldl (fun d w => top2 d (g w)) x
  | [], x => ⟨Int.le_refl _, fun w h => by cases h⟩
  | w :: r, x => by
    have ih := fold_top_le g r (top2 x (g w))
    have t1 : x ≤ top2 x (g w) ∧ g w ≤ top2 x (g w) := by unfold top2; split <;> omega
    refine ⟨Int.le_trans t1.1 ih.1, fun z hz => ?_⟩
    rcases List.mem_cons.mp hz with e | e
    · rw [e]; exact Int.le_trans t1.2 ih.1
    · exact ih.2 z e
theorem fold_congr {g h : Nat → Int} : ∀ (ws : List Nat) (x : Int), (∀ w ∈ ws, g w = h w) → ws.foldl (fun d w => top2 d (g w)) x = ws.foldl (fun d w => top2 d (h w)) x
  | [], _, _ => rfl
  | w :: r, x, e => by
    show r.foldl (fun d w => top2 d (g w)) (top2 x (g w)) = r.foldl (fun d w => top2 d (h w)) (top2 x (h w))
    rw [e w (List.mem_cons_self ..)]
    exact fold_congr r _ fun z hz => e z (List.mem_cons_of_mem _ hz)
theorem dep_eq {N : Str → Prop} {rs : List Row} (ok : RowsOk N rs) {x : Nat} {r : Row} (h : rs[x]? = some r) : dep rs x = (ownR r).foldl (fun d w => top2 d (dep rs w + 1)) 0 := by
  unfold dep
  have e := runL_get deepI h
  rw [List.getD_eq_getElem?_getD]
  show ((runL deepI rs)[x]?).getD 0 = _
  rw [e]
  show deepI ((runL deepI rs).take x) r = _
  unfold deepI
  refine fold_congr _ _ fun w hw => ?_
  have hlt := own_lt (ok x r h) w hw
  show ((runL deepI rs).take x).getD w 0 + 1 = (runL deepI rs).getD w 0 + 1
  rw [List.getD_eq_getElem?_getD, List.getD_eq_getElem?_getD, List.getElem?_take, if_pos hlt]
theorem dep_nn {N : Str → Prop} {rs : List Row} (ok : RowsOk N rs) (x : Nat) : 0 ≤ dep rs x := by
  cases e : rs[x]? with
  | some r => rw [dep_eq ok e]; exact (fold_top_le _ _ _).1
  | none =>
    have h : rs.length ≤ x := List.getElem?_eq_none_iff.mp e
    unfold dep
    rw [List.getD_eq_getElem?_getD, List.getElem?_eq_none (by show (runL deepI rs).length ≤ x; rw [runL_len]; exact h)]
    exact Int.le_refl 0
theorem dep_le {N : Str → Prop} {rs : List Row} (ok : RowsOk N rs) : ∀ (n x : Nat), x < n → dep rs x ≤ x
  | 0, x, h => by omega
  | n + 1, x, h => by
    cases e : rs[x]? with
    | some r =>
      rw [dep_eq ok e]
      rcases fold_top (fun z => dep rs z + 1) (ownR r) 0 with q | ⟨z, hz, q⟩
      · rw [q]; omega
      · rw [q]
        have hlt := own_lt (ok x r e) z hz
        have ih := dep_le ok n z (by omega)
        omega
    | none =>
      have h : rs.length ≤ x := List.getElem?_eq_none_iff.mp e
      unfold dep
      rw [List.getD_eq_getElem?_getD, List.getElem?_eq_none (by show (runL deepI rs).length ≤ x; rw [runL_len]; exact h)]
      show (0 : Int) ≤ x
      omega
def Way (rs : List Row) (w : Nat) (ws : List Nat) : Prop := ws[0]? = some w ∧ (∀ (k x y : Nat), ws[k]? = some x → ws[k + 1]? = some y → ∃ r, rs[x]? = some r ∧ y ∈ ownR r) ∧ ∀ (k x : Nat), ws[k]? = some x → x < rs.length ∧ dep rs x = dep rs w - k
theorem Way.one {rs : List Row} {w : Nat} (h : w < rs.length) : Way rs w [w] :=
  ⟨rfl, fun k x y _ hy => (by cases hy), fun k x hx => (by
    cases k with
    | zero => cases hx; exact ⟨h, by omega⟩
    | succ k => cases hx)⟩
theorem Way.snoc {rs : List Row} {w x y : Nat} {us : List Nat} {r : Row} (h : Way rs w (us ++ [x])) (hr : rs[x]? = some r) (hy : y ∈ ownR r) (hl : y < rs.length) (hd : dep rs y = dep rs x - 1) : Way rs w (us ++ [x] ++ [y]) := by
  have hux : (us ++ [x])[us.length]? = some x := by rw [List.getElem?_append_right (Nat.le_refl _), Nat.sub_self]; rfl
  have hlen : (us ++ [x]).length = us.length + 1 := by rw [List.length_append]; rfl
  refine ⟨by rw [List.getElem?_append_left (by omega)]; exact h.1, fun k a b ha hb => ?_, fun k a ha => ?_⟩
  · have hb' := (List.getElem?_eq_some_iff.mp hb).1
    rw [List.length_append, List.length_singleton, hlen] at hb'
    by_cases e : k + 1 < us.length + 1
    · rw [List.getElem?_append_left (by omega)] at ha hb
      exact h.2.1 k a b ha hb
    · have ek : k = us.length := by omega
      subst ek
      rw [List.getElem?_append_left (by omega), hux] at ha
      cases ha
      rw [List.getElem?_append_right (by omega), hlen, Nat.sub_self] at hb
      cases hb
      exact ⟨r, hr, hy⟩
  · have ha' := (List.getElem?_eq_some_iff.mp ha).1
    rw [List.length_append, List.length_singleton, hlen] at ha'
    by_cases e : k < us.length + 1
    · rw [List.getElem?_append_left (by omega)] at ha
      exact h.2.2 k a ha
    · have ek : k = us.length + 1 := by omega
      subst ek
      rw [List.getElem?_append_right (by omega), hlen, Nat.sub_self] at ha
      cases ha
      have hx := (h.2.2 us.length x hux).2
      exact ⟨hl, by omega⟩
/-- a way from its first wire on -/
def WayR (rs : List Row) (w : Nat) (ws : List Nat) : Prop := (ws.length : Int) = dep rs w + 1 ∧ (∀ x ∈ ws, x < rs.length) ∧ (∀ (k x y : Nat), ws[k]? = some y → ws[k + 1]? = some x → ∃ r, rs[x]? = some r ∧ y ∈ ownR r) ∧ (∃ us, ws = us ++ [w]) ∧ ∃ z, ws[0]? = some z ∧ dep rs z = 0
theorem Way.rev {rs : List Row} {w x : Nat} {us : List Nat} (h : Way rs w (us ++ [x])) (hx : dep rs x = 0) : WayR rs w (us ++ [x]).reverse := by
  have hux : (us ++ [x])[us.length]? = some x := by rw [List.getElem?_append_right (Nat.le_refl _), Nat.sub_self]; rfl
  have hlen : (us ++ [x]).length = us.length + 1 := by rw [List.length_append]; rfl
  have h0 := (h.2.2 us.length x hux).2
  refine ⟨by rw [List.length_reverse, hlen]; omega, fun z hz => ?_, fun k a b ha hb => ?_, ?_, x, ?_, hx⟩
  · obtain ⟨k, hk⟩ := List.mem_iff_getElem?.mp (List.mem_reverse.mp hz)
    exact (h.2.2 k z hk).1
  · have hb' := (List.getElem?_eq_some_iff.mp hb).1
    rw [List.length_reverse, hlen] at hb'
    rw [List.getElem?_reverse (by omega), hlen] at ha hb
    refine h.2.1 (us.length - (k + 1)) a b ?_ ?_
    · rw [show us.length - (k + 1) = us.length + 1 - 1 - (k + 1) by omega]; exact hb
    · rw [show us.length - (k + 1) + 1 = us.length + 1 - 1 - k by omega]; exact ha
  · have e := h.1
    cases us with
    | nil => cases e; exact ⟨[], rfl⟩
    | cons u us =>
      cases e
      exact ⟨(us ++ [x]).reverse, by rw [List.cons_append, List.reverse_cons]⟩
  · rw [List.getElem?_reverse (by omega), hlen]
    exact hux
theorem nat_last (us : List Nat) (x : Nat) : atI ((natI (us ++ [x])).map V.int) (-1) = some (.int (x : Int)) := by
  unfold natI
  rw [List.map_append, List.map_append]
  exact atI_last _ _
theorem nat_at {ws : List Nat} {k x : Nat} (h : ws[k]? = some x) : atI ((natI ws).map V.int) (k : Int) = some (.int (x : Int)) := atI_nat (by
  unfold natI
  rw [List.map_map, List.getElem?_map, h]
  rfl)
theorem nat_snoc (ws : List Nat) (x : Nat) : (natI ws).map V.int ++ [V.int (x : Int)] = (natI (ws ++ [x])).map V.int := by
  unfold natI
  rw [List.map_append, List.map_append]
  rfl
theorem nat_rev (ws : List Nat) : ((natI ws).map V.int).reverse = (natI ws.reverse).map V.int := by
  unfold natI
  rw [List.map_reverse, List.map_reverse]
end Dpr

namespace Dpr
open PySem PySem.Spec PyProof.Rows L2
theorem ib_abs (x : Int) (n : Nat) : Builtin.Int.intBits x ≤ n ↔ x.natAbs < 2 ^ n := by
  have e : Builtin.Int.intBits x = Builtin.Int.intBits (x.natAbs : Int) := by
    unfold Builtin.Int.intBits
    by_cases h : x = 0
    · subst h; rfl
    · rw [if_neg (by simpa using h), if_neg (by simpa using h)]
      rfl
  rw [e, ib_le (by omega) n]
  rw [show ((2 : Int) ^ n) = ((2 ^ n : Nat) : Int) by rw [Int.natCast_pow]; rfl]
  exact Int.ofNat_lt
theorem bits_add {c j : Int} {n : Nat} (h : Builtin.Int.intBits c ≤ n) (hj : Builtin.Int.intBits j ≤ n) : Builtin.Int.intBits (c + j) ≤ n + 1 := by
  rw [ib_abs] at *
  rw [Nat.pow_succ]
  omega
/-! beats -/
def beatI (ws : List (Str × Int)) (prev bits : List Int) (r : Row) : Int := match r with
  | .lat a => prev.getD a 0
  | r => gateI ws bits r
def beatL (rs : List Row) (prev : List Int) (ws : List (Str × Int)) : List Int := runL (beatI ws prev) rs
def beatsL (rs : List Row) (wss : List (List (Str × Int))) : List (List Int) := wss.foldl (fun acc ws => acc ++ [beatL rs (acc.getLastD []) ws]) []
theorem beatsL_snoc (rs : List Row) (wss : List (List (Str × Int))) (ws : List (Str × Int)) : beatsL rs (wss ++ [ws]) = beatsL rs wss ++ [beatL rs ((beatsL rs wss).getLastD []) ws] := by
  unfold beatsL
  rw [List.foldl_append]
  rfl
theorem beat_01 {N : Str → Prop} {n : Nat} {r : Row} (ws : List (Str × Int)) {prev bs : List Int} (hp : All01 prev) (h : All01 bs) (ok : RowOk N n r) : is01 (beatI ws prev bs r) := by
  cases r with
  | lat a => exact all01_get hp a
  | fix b => exact gateI_01 (r := .fix b) ws h ok
  | inn m k => exact gateI_01 (r := .inn m k) ws h ok
  | inv a => exact gateI_01 (r := .inv a) ws h ok
  | bin o a b => exact gateI_01 (r := .bin o a b) ws h ok
theorem beatL_01 {N : Str → Prop} (ws : List (Str × Int)) {prev : List Int} (hp : All01 prev) {rs : List Row} (ok : RowsOk N rs) : ∀ i, All01 (runL (beatI ws prev) (rs.take i))
  | 0 => fun x hx => by cases hx
  | i + 1 => by
    have ih := beatL_01 ws hp ok i
    cases e : rs[i]? with
    | none =>
      have : rs.take (i + 1) = rs.take i := by rw [List.take_add_one, e]; exact List.append_nil _
      rw [this]
      exact ih
    | some r =>
      rw [take_snoc e, runL_snoc]
      intro x hx
      rcases List.mem_append.mp hx with q | q
      · exact ih x q
      · rw [List.mem_singleton.mp q]
        exact beat_01 ws hp ih (ok i r e)
theorem A2.mono2 {α β : Type} {R S : α → β → Prop} {xs : List α} {ys : List β} (h : A2 R xs ys) (k : ∀ x y, x ∈ xs → R x y → S x y) : A2 S xs ys := ⟨h.1, fun i x y a b => k x y (List.mem_of_getElem? a) (h.2 i x y a b)⟩
def DictAt (H : Hp) (p : Addr) (ws : List (Str × Int)) : Prop := H p = some (.dK (wkv ws))
def IntsAt (H : Hp) (p : Addr) (bs : List Int) : Prop := H p = some (.lst (bs.map V.int))
def DictsL (K : PySem.W.Frag) (H : Hp) (a : Addr) (wss : List (List (Str × Int))) : Prop := ∃ ps : List Addr, SqL K H a (ps.map V.ref) ∧ A2 (DictAt H) ps wss
/-- what stood at the beat before: nothing, or a list -/
def Before (H : Hp) (n : Nat) (prev : List Int) (bv : V) : Prop := (bv = .non ∧ prev = []) ∨ ∃ q, bv = .ref q ∧ IntsAt H q prev ∧ prev.length = n
theorem Before.same {H H' : Hp} {n : Nat} {prev : List Int} {bv : V} (s : Same H H') (h : Before H n prev bv) : Before H' n prev bv := by
  rcases h with h | ⟨q, h1, h2, h3⟩
  · exact .inl h
  · exact .inr ⟨q, h1, s _ _ h2, h3⟩
def rIsNo : R2 := fun x y H Q => y = .non ∧ Q (.bl (decide (x = .non))) H
def rNotNo : R2 := fun x y H Q => y = .non ∧ Q (.bl (!decide (x = .non))) H
theorem op_isNo {X : Cx} : OpR X (compareOp .Is) rIsNo := op_isN
theorem op_notNo {X : Cx} : OpR X (compareOp .IsNot) rNotNo := op_notN
theorem w_isNo1 {H : Hp} {Q : VK} (h : Q (.bl true) H) : rIsNo .non .non H Q := ⟨rfl, h⟩
theorem w_isNo0 {p : Addr} {H : Hp} {Q : VK} (h : Q (.bl false) H) : rIsNo (.ref p) .non H Q := ⟨rfl, by rw [decide_eq_false (fun z => by cases z)]; exact h⟩
theorem w_notNo1 {H : Hp} {Q : VK} (h : Q (.bl false) H) : rNotNo .non .non H Q := ⟨rfl, h⟩
theorem w_notNo0 {p : Addr} {H : Hp} {Q : VK} (h : Q (.bl true) H) : rNotNo (.ref p) .non H Q := ⟨rfl, by rw [decide_eq_false (fun z => by cases z)]; exact h⟩
end Dpr

namespace Dpr
open PySem PySem.Spec PyProof.Rows L2
/-! objects of the program's classes -/
def IsC (K : PySem.W.Frag) (c : Str) (C : Addr) : Prop := PySem.W.nsIn K mainGlobals c = some (some (.ref C))
theorem IsC.one {K : PySem.W.Frag} {c : Str} {C D : Addr} (h : IsC K c C) (k : IsC K c D) : C = D := by
  unfold IsC at h k
  rw [h] at k
  cases k
  rfl
theorem lookup_hd {f : Str} {v : V} {r : List (Str × V)} : ((f, v) :: r).lookup f = some v := List.lookup_cons_self ..
theorem lookup_tl {f g : Str} {v : V} {r : List (Str × V)} {o : Option V} (h : (f == g) = false) (k : r.lookup f = o) : ((g, v) :: r).lookup f = o := by
  rw [List.lookup_cons, h]
  exact k
theorem lookup_no {f : Str} : ([] : List (Str × V)).lookup f = none := rfl
section
variable {K : PySem.W.Frag} {σ : L2.St} {H : Hp} {Q : VK} {D : Ends} {ta tv : TE} {t : TA} {f m : Str}
def FldB (K : PySem.W.Frag) (f : Str) (Q : VK) (x : V) (H1 : Hp) : Prop := ∃ a C dx fs v, x = .ref a ∧ H1 a = some (.ins C dx fs) ∧ Cls K C ∧ NoAttr K C f ∧ fs.lookup f = some v ∧ Q v H1
theorem w_fld (h : ta σ H (FldB K f Q)) : tFld K ta f σ H Q := h
theorem w_FldB {a C dx : Addr} {fs : List (Str × V)} {v : V} (h : H a = some (.ins C dx fs)) (c : Cls K C) (n : NoAttr K C f) (e : fs.lookup f = some v) (q : Q v H) : FldB K f Q (.ref a) H := ⟨a, C, dx, fs, v, rfl, h, c, n, e, q⟩
def SFldB (K : PySem.W.Frag) (f : Str) (D : Ends) (σ : L2.St) (y x : V) (H2 : Hp) : Prop := ∃ a C dx fs, x = .ref a ∧ H2 a = some (.ins C dx fs) ∧ Cls K C ∧ NoAttr K C f ∧ fs.length < 1000 ∧ D.nx σ (upd H2 a (.ins C dx (putF f y fs)))
theorem w_sfld (h : tv σ H fun y H1 => ta σ H1 fun x H2 => SFldB K f D σ y x H2) : sFld K ta tv f D σ H := h
theorem w_SFldB {a C dx : Addr} {fs : List (Str × V)} {y : V} (h : H a = some (.ins C dx fs)) (c : Cls K C) (n : NoAttr K C f) (l : fs.length < 1000) (q : D.nx σ (upd H a (.ins C dx (putF f y fs)))) : SFldB K f D σ y (.ref a) H := ⟨a, C, dx, fs, rfl, h, c, n, l, q⟩
def MethB (C : Addr) (m : Str) (sp : Sp) (dvs : List V) (E : XK) (t : TA) (σ : L2.St) (Q : VK) (x : V) (H1 : Hp) : Prop := ∃ a dx fs, x = .ref a ∧ H1 a = some (.ins C dx fs) ∧ fs.lookup m = none ∧ t σ H1 fun vs H2 => sp (x :: (vs ++ dvs)) H2 Q E
theorem w_meth {C : Addr} {sp : Sp} {dvs : List V} {E : XK} (h : ta σ H (MethB C m sp dvs E t σ Q)) : tMeth C m sp dvs E ta t σ H Q := h
theorem w_MethB {C a dx : Addr} {fs : List (Str × V)} {sp : Sp} {dvs : List V} {E : XK} (h : H a = some (.ins C dx fs)) (e : fs.lookup m = none) (q : t σ H fun vs H2 => sp (.ref a :: (vs ++ dvs)) H2 Q E) : MethB C m sp dvs E t σ Q (.ref a) H := ⟨a, dx, fs, rfl, h, e, q⟩
theorem w_make {C : Addr} {sp : Sp} {dvs : List V} {E : XK} (h : t σ H fun vs H1 => ∀ x dx, H1 x = none → H1 dx = none → dx ≠ x → sp (.ref x :: (vs ++ dvs)) (upd (upd H1 dx (.own x)) x (.ins C dx [])) (fun v H2 => v = .non ∧ Q (.ref x) H2) E) : tMake C sp dvs E t σ H Q := h
end
/-- a sheet, its rows at r -/
def SheetAt (K : PySem.W.Frag) (H : Hp) (s r : Addr) : Prop := ∃ C dx, H s = some (.ins C dx [("rows", .ref r)]) ∧ IsC K "Sheet" C
end Dpr

namespace Dpr
open PySem PySem.Spec PyProof.Rows L2
/-! rows as keys of a dict -/
def rowK : Row → List Key
  | .fix b => [.inr "fix", .inl b]
  | .inn n k => [.inr "in", .inr n, .inl (k : Int)]
  | .inv a => [.inr "not", .inl (a : Int)]
  | .bin o a b => [.inr (bopS o), .inl (a : Int), .inl (b : Int)]
  | .lat a => [.inr "latch", .inl (a : Int)]
theorem rowK_V (r : Row) : rowV r = (rowK r).map kV := by cases r <;> rfl
theorem bopS_inj {o p : Bop} (h : bopS o = bopS p) : o = p := by
  cases o <;> cases p <;> first | rfl | exact absurd h (by decide +kernel)
theorem bopS_odd (o : Bop) : bopS o ≠ "fix" ∧ bopS o ≠ "in" ∧ bopS o ≠ "not" ∧ bopS o ≠ "latch" := by
  cases o <;> decide +kernel
theorem rowK_inj {r t : Row} (h : rowK r = rowK t) : r = t := by
  have f1 : ("fix" : Str) ≠ "not" := by decide +kernel
  have f2 : ("fix" : Str) ≠ "latch" := by decide +kernel
  have f3 : ("not" : Str) ≠ "latch" := by decide +kernel
  have f4 : ("in" : Str) ≠ "fix" := by decide +kernel
  cases r with
  | fix b =>
    cases t with
    | fix c => unfold rowK at h; simp only [List.cons.injEq, Sum.inl.injEq, and_true, true_and] at h; rw [h]
    | inn n k => cases congrArg List.length h
    | inv a => exact absurd (Sum.inr.inj (List.cons.inj h).1) f1
    | bin o a c => cases congrArg List.length h
    | lat a => exact absurd (Sum.inr.inj (List.cons.inj h).1) f2
  | inn n k =>
    cases t with
    | inn m j =>
      unfold rowK at h
      simp only [List.cons.injEq, Sum.inl.injEq, Sum.inr.injEq, and_true, true_and] at h
      obtain ⟨h1, h2⟩ := h
      rw [h1, show k = j by omega]
    | bin o a c => exact absurd (Sum.inr.inj (List.cons.inj h).1).symm (bopS_odd o).2.1
    | _ => cases congrArg List.length h
  | inv a =>
    cases t with
    | fix c => exact absurd (Sum.inr.inj (List.cons.inj h).1).symm f1
    | inv c => unfold rowK at h; simp only [List.cons.injEq, Sum.inl.injEq, and_true, true_and] at h; rw [show a = c by omega]
    | lat c => exact absurd (Sum.inr.inj (List.cons.inj h).1) f3
    | _ => cases congrArg List.length h
  | bin o a b =>
    cases t with
    | inn m j => exact absurd (Sum.inr.inj (List.cons.inj h).1) (bopS_odd o).2.1
    | bin p c d =>
      unfold rowK at h
      simp only [List.cons.injEq, Sum.inl.injEq, Sum.inr.injEq, and_true] at h
      obtain ⟨h1, h2, h3⟩ := h
      rw [bopS_inj h1, show a = c by omega, show b = d by omega]
    | _ => cases congrArg List.length h
  | lat a =>
    cases t with
    | fix c => exact absurd (Sum.inr.inj (List.cons.inj h).1).symm f2
    | inv c => exact absurd (Sum.inr.inj (List.cons.inj h).1).symm f3
    | lat c => unfold rowK at h; simp only [List.cons.injEq, Sum.inl.injEq, and_true, true_and] at h; rw [show a = c by omega]
    | _ => cases congrArg List.length h
def placesFrom (n : Nat) : List Row → List (List Key × V)
  | [] => []
  | r :: rs => (rowK r, .int (n : Int)) :: placesFrom (n + 1) rs
def placesK (ks : List Row) : List (List Key × V) := placesFrom 0 ks
theorem placesFrom_none {r : Row} : ∀ (ks : List Row) (n : Nat), r ∉ ks → valV (placesFrom n ks) (rowK r) = none
  | [], _, _ => rfl
  | k :: ks, n, h => by
    rw [show placesFrom n (k :: ks) = (rowK k, V.int (n : Int)) :: placesFrom (n + 1) ks from rfl, valV_neg (fun z => h (by rw [← rowK_inj z]; exact List.mem_cons_self ..))]
    exact placesFrom_none ks (n + 1) fun z => h (List.mem_cons_of_mem _ z)
theorem placesFrom_some {r : Row} : ∀ (ks : List Row) (n i : Nat), ks.Nodup → ks[i]? = some r → valV (placesFrom n ks) (rowK r) = some (.int ((n + i : Nat) : Int))
  | [], _, _, _, h => by cases h
  | k :: ks, n, 0, _, h => by
    have e : k = r := Option.some.inj h
    rw [show placesFrom n (k :: ks) = (rowK k, V.int (n : Int)) :: placesFrom (n + 1) ks from rfl, valV_pos (by rw [e])]
    rfl
  | k :: ks, n, i + 1, nd, h => by
    have h' : ks[i]? = some r := h
    have ne : ¬ rowK k = rowK r := fun z => (List.nodup_cons.mp nd).1 (by rw [rowK_inj z]; exact List.mem_of_getElem? h')
    rw [show placesFrom n (k :: ks) = (rowK k, V.int (n : Int)) :: placesFrom (n + 1) ks from rfl, valV_neg ne, placesFrom_some ks (n + 1) i (List.nodup_cons.mp nd).2 h', show n + 1 + i = n + (i + 1) by omega]
theorem placesFrom_snoc (r : Row) : ∀ (ks : List Row) (n : Nat), placesFrom n (ks ++ [r]) = placesFrom n ks ++ [(rowK r, .int ((n + ks.length : Nat) : Int))]
  | [], n => rfl
  | k :: ks, n => by
    show (rowK k, V.int (n : Int)) :: placesFrom (n + 1) (ks ++ [r]) = (rowK k, V.int (n : Int)) :: (placesFrom (n + 1) ks ++ _)
    rw [placesFrom_snoc r ks (n + 1), List.length_cons, show n + 1 + ks.length = n + (ks.length + 1) by omega]
theorem placesFrom_len : ∀ (ks : List Row) (n : Nat), (placesFrom n ks).length = ks.length
  | [], _ => rfl
  | _ :: ks, n => by show (placesFrom (n + 1) ks).length + 1 = ks.length + 1; rw [placesFrom_len]
/-! the kept rows -/
def fixAt (ks : List Row) (w : Nat) : Prop := ∃ b, ks[w]? = some (.fix b)
def invAt (ks : List Row) (w : Nat) : Prop := ∃ a, ks[w]? = some (.inv a)
def FormR (ks : List Row) : Row → Prop
  | .inv a => ¬ fixAt ks a ∧ ¬ invAt ks a
  | .bin _ a b => a < b ∧ ¬ fixAt ks a ∧ ¬ fixAt ks b
  | _ => True
structure KOk (N : Str → Prop) (old ks : List Row) : Prop where
  ok : RowsOk N ks
  nl : NoLats ks
  nd : ks.Nodup
  form : ∀ r ∈ ks, FormR ks r
  ins : ∀ n k, Row.inn n k ∈ ks → Row.inn n k ∈ old
def Grow (ks ks' : List Row) : Prop := ∃ t, ks' = ks ++ t ∧ t.length ≤ 1
theorem Grow.refl (ks : List Row) : Grow ks ks := ⟨[], (List.append_nil ks).symm, Nat.zero_le _⟩
theorem Grow.len {ks ks' : List Row} (h : Grow ks ks') : ks.length ≤ ks'.length ∧ ks'.length ≤ ks.length + 1 := by
  obtain ⟨t, rfl, h⟩ := h
  rw [List.length_append]
  omega
theorem Grow.get {ks ks' : List Row} (h : Grow ks ks') {w : Nat} (hw : w < ks.length) : ks'[w]? = ks[w]? := by
  obtain ⟨t, rfl, h⟩ := h
  exact List.getElem?_append_left hw
def Fit (N : Str → Prop) (old ks : List Row) (r : Row) : Prop := RowOk N ks.length r ∧ noLat r ∧ FormR ks r ∧ ∀ n k, r = .inn n k → r ∈ old
theorem form_grow {N : Str → Prop} {ks t : List Row} {r : Row} (ok : RowOk N ks.length r) (h : FormR ks r) : FormR (ks ++ t) r := by
  have g : ∀ a, a < ks.length → (ks ++ t)[a]? = ks[a]? := fun a ha => List.getElem?_append_left ha
  cases r with
  | inv a =>
    have ha : a < ks.length := ok
    exact ⟨fun ⟨b, e⟩ => h.1 ⟨b, by rw [← g a ha]; exact e⟩, fun ⟨b, e⟩ => h.2 ⟨b, by rw [← g a ha]; exact e⟩⟩
  | bin o a b =>
    exact ⟨h.1, fun ⟨c, e⟩ => h.2.1 ⟨c, by rw [← g a ok.1]; exact e⟩, fun ⟨c, e⟩ => h.2.2 ⟨c, by rw [← g b ok.2]; exact e⟩⟩
  | _ => exact True.intro
theorem rowOk_le {N : Str → Prop} {n m : Nat} {r : Row} (h : RowOk N n r) (l : n ≤ m) : RowOk N m r := by
  cases r with
  | fix b => exact h
  | inn n k => exact h
  | inv a => exact Nat.lt_of_lt_of_le h l
  | bin o a b => exact ⟨Nat.lt_of_lt_of_le h.1 l, Nat.lt_of_lt_of_le h.2 l⟩
  | lat a => exact Nat.lt_of_lt_of_le h l
theorem KOk.rowOk {N : Str → Prop} {old ks : List Row} (k : KOk N old ks) {r : Row} (h : r ∈ ks) : RowOk N ks.length r := by
  obtain ⟨i, hi⟩ := List.mem_iff_getElem?.mp h
  exact rowOk_le (k.ok i r hi) (Nat.le_of_lt (List.getElem?_eq_some_iff.mp hi).1)
theorem KOk.put {N : Str → Prop} {old ks : List Row} {r : Row} (k : KOk N old ks) (f : Fit N old ks r) (new : r ∉ ks) : KOk N old (ks ++ [r]) := by
  refine ⟨k.ok.snoc f.1, k.nl.snoc f.2.1, ?_, fun x hx => ?_, fun n j hx => ?_⟩
  · refine List.nodup_append.mpr ⟨k.nd, List.nodup_cons.mpr ⟨(fun z => by cases z), List.nodup_nil⟩, fun x hx y hy e => ?_⟩
    rw [List.mem_singleton.mp hy] at e
    exact new (e ▸ hx)
  · rcases List.mem_append.mp hx with e | e
    · exact form_grow (k.rowOk e) (k.form x e)
    · rw [List.mem_singleton.mp e]
      exact form_grow f.1 f.2.2.1
  · rcases List.mem_append.mp hx with e | e
    · exact k.ins n j e
    · have e' := List.mem_singleton.mp e
      have := f.2.2.2 n j e'.symm
      rw [← e'] at this
      exact this
/-! what a wire tells -/
def bit (ws : List (Str × Int)) (ks : List Row) (w : Nat) : Int := (toldL ws ks).getD w 0
theorem run_grow (f : List Int → Row → Int) {ks t : List Row} {w : Nat} (h : w < ks.length) : (runL f (ks ++ t)).getD w 0 = (runL f ks).getD w 0 := by
  have e := runL_take f (ks ++ t) ks.length
  rw [List.take_left'  rfl] at e
  rw [e, List.getD_eq_getElem?_getD, List.getD_eq_getElem?_getD, List.getElem?_take, if_pos h]
theorem bit_grow {ks ks' : List Row} (g : Grow ks ks') (ws : List (Str × Int)) {w : Nat} (h : w < ks.length) : bit ws ks' w = bit ws ks w := by
  obtain ⟨t, rfl, _⟩ := g
  exact run_grow (gateI ws) h
theorem dep_grow {ks ks' : List Row} (g : Grow ks ks') {w : Nat} (h : w < ks.length) : dep ks' w = dep ks w := by
  obtain ⟨t, rfl, _⟩ := g
  exact run_grow deepI h
theorem run_at (f : List Int → Row → Int) {ks : List Row} {w : Nat} {r : Row} (h : ks[w]? = some r) : (runL f ks).getD w 0 = f ((runL f ks).take w) r := by
  rw [List.getD_eq_getElem?_getD, runL_get f h]
  rfl
theorem take_getD {xs : List Int} {w a : Nat} (h : a < w) : (xs.take w).getD a 0 = xs.getD a 0 := by
  rw [List.getD_eq_getElem?_getD, List.getD_eq_getElem?_getD, List.getElem?_take, if_pos h]
theorem bit_fix {ws : List (Str × Int)} {ks : List Row} {w : Nat} {b : Int} (h : ks[w]? = some (.fix b)) : bit ws ks w = b := run_at (gateI ws) h
theorem bit_inn {ws : List (Str × Int)} {ks : List Row} {w : Nat} {n : Str} {k : Nat} (h : ks[w]? = some (.inn n k)) : bit ws ks w = (lookW ws n).getD 0 / 2 ^ k % 2 := run_at (gateI ws) h
theorem bit_inv {N : Str → Prop} {ws : List (Str × Int)} {ks : List Row} {w a : Nat} (ok : RowsOk N ks) (h : ks[w]? = some (.inv a)) : bit ws ks w = 1 - bit ws ks a := by
  have ha : a < w := ok w _ h
  have e := run_at (gateI ws) h
  unfold bit
  show (runL (gateI ws) ks).getD w 0 = 1 - (runL (gateI ws) ks).getD a 0
  rw [e, ← take_getD ha]
  rfl
theorem bit_bin {N : Str → Prop} {ws : List (Str × Int)} {ks : List Row} {w a b : Nat} {o : Bop} (ok : RowsOk N ks) (h : ks[w]? = some (.bin o a b)) : bit ws ks w = bopI o (bit ws ks a) (bit ws ks b) := by
  have ha := ok w _ h
  have e := run_at (gateI ws) h
  unfold bit
  show (runL (gateI ws) ks).getD w 0 = bopI o ((runL (gateI ws) ks).getD a 0) ((runL (gateI ws) ks).getD b 0)
  rw [e, ← take_getD ha.1, ← take_getD ha.2]
  rfl
theorem bit_01 {N : Str → Prop} {ks : List Row} (ok : RowsOk N ks) (ws : List (Str × Int)) (w : Nat) : is01 (bit ws ks w) := by
  have h := toldL_01 ws ok ks.length
  rw [List.take_of_length_le (Nat.le_refl _)] at h
  exact all01_get h w
end Dpr

namespace Dpr
open PySem PySem.Spec PyProof.Rows L2
/-! heaps of which some places may change -/
def Fr (ms : List Addr) (H H' : Hp) : Prop := ∀ b o, H b = some o → b ∉ ms → H' b = some o
theorem Fr.refl {ms : List Addr} {H : Hp} : Fr ms H H := fun _ _ h _ => h
theorem Fr.trans {ms : List Addr} {H H1 H2 : Hp} (h : Fr ms H H1) (k : Fr ms H1 H2) : Fr ms H H2 := fun b o e n => k b o (h b o e n) n
theorem Fr.of {ms : List Addr} {H H' : Hp} (s : Same H H') : Fr ms H H' := fun b o e _ => s b o e
theorem Fr.put {ms : List Addr} {H : Hp} {a : Addr} {o : HO} (h : a ∈ ms) : Fr ms H (upd H a o) := fun b x e n => by
  rw [upd_ne (fun z => n (by rw [z]; exact h))]
  exact e
theorem Fr.same {ms : List Addr} {H0 H H' : Hp} (f : Fr ms H H') (s : Same H0 H) (n : ∀ m ∈ ms, H0 m = none) : Same H0 H' := fun b o e => f b o (s b o e) (fun z => by
  rw [n b z] at e
  cases e)
theorem Fr.mono {ms ns : List Addr} {H H' : Hp} (f : Fr ms H H') (h : ∀ m ∈ ms, m ∈ ns) : Fr ns H H' := fun b o e n => f b o e (fun z => n (h b z))
theorem seq_fr {K : PySem.W.Frag} {ms : List Addr} {H H' : Hp} {a : Addr} {xs : List V} (f : Fr ms H H') (n : a ∉ ms) (h : SqL K H a xs) : SqL K H' a xs := by
  rcases h with (h | ⟨o, h⟩) | h
  · exact .inl (.inl (f _ _ h n))
  · exact .inl (.inr ⟨o, f _ _ h n⟩)
  · exact .inr h
/-! dicts by rows -/
def NInB (Q : Bool → Hp → Prop) (y x : V) (H2 : Hp) : Prop := ∃ a o, x = .ref a ∧ DGet H2 a y o ∧ ∃ k, V.bl (!o.isSome) = .bl k ∧ Q k H2
def InB (Q : Bool → Hp → Prop) (y x : V) (H2 : Hp) : Prop := ∃ a o, x = .ref a ∧ DGet H2 a y o ∧ ∃ k, V.bl o.isSome = .bl k ∧ Q k H2
section
variable {σ : L2.St} {H : Hp} {Q : VK} {QB : Bool → Hp → Prop} {ty td : TE} {D : Ends}
theorem w_dnin (h : ty σ H fun y H1 => td σ H1 fun x H2 => NInB QB y x H2) : tB (tDNotIn ty td) σ H QB := h
theorem w_din (h : ty σ H fun y H1 => td σ H1 fun x H2 => InB QB y x H2) : tB (tDIn ty td) σ H QB := h
theorem w_NInT1 {a p : Addr} {kvs : List (List Key × V)} {k : List Key} (e : H a = some (.dT kvs)) (ep : H p = some (.tup (k.map kV))) (n : valV kvs k = none) (q : QB true H) : NInB QB (.ref p) (.ref a) H :=
  ⟨a, none, rfl, by rw [← n]; exact DGet.t e ep, true, rfl, q⟩
theorem w_NInT0 {a p : Addr} {kvs : List (List Key × V)} {k : List Key} {v : V} (e : H a = some (.dT kvs)) (ep : H p = some (.tup (k.map kV))) (n : valV kvs k = some v) (q : QB false H) : NInB QB (.ref p) (.ref a) H :=
  ⟨a, some v, rfl, by rw [← n]; exact DGet.t e ep, false, rfl, q⟩
theorem w_DGT {a p : Addr} {kvs : List (List Key × V)} {k : List Key} {v : V} (e : H a = some (.dT kvs)) (ep : H p = some (.tup (k.map kV))) (n : valV kvs k = some v) (q : Q v H) : DG1 (.ref a) (.ref p) H Q :=
  ⟨a, v, rfl, by rw [← n]; exact DGet.t e ep, q⟩
theorem w_DPutT {a p : Addr} {kvs : List (List Key × V)} {k : List Key} {v : V} (e : H a = some (.dT kvs)) (ep : H p = some (.tup (k.map kV))) (hl : kvs.length ≤ 1000000) (q : D.nx σ (upd H a (.dT (putK kvs k v)))) : DPutB D σ v (.ref a) (.ref p) H :=
  ⟨a, _, rfl, .inr ⟨kvs, k, p, e, rfl, ep, Nat.lt_of_le_of_lt hl (by rw [sizeLine_eq]; decide), rfl⟩, q⟩
theorem w_dnewT (h : ∀ p H', H p = none → Same H H' → H' p = some (.dT []) → Q (.ref p) H') : tDNewT σ H Q := fun p hp => h p _ hp (same_upd hp) upd_same
end
theorem w_notNoI {i : Int} {H : Hp} {Q : VK} (h : Q (.bl true) H) : rNotNo (.int i) .non H Q := ⟨rfl, h⟩
/-! objects made -/
section
variable {σ : L2.St} {H H1 : Hp} {Q : VK} {C : Addr} {sp : Sp} {vs dvs : List V} {E : XK} {t : TA}
def MkB (C : Addr) (sp : Sp) (dvs : List V) (E : XK) (Q : VK) (vs : List V) (H1 : Hp) : Prop := ∀ x dx, H1 x = none → H1 dx = none → dx ≠ x → sp (.ref x :: (vs ++ dvs)) (upd (upd H1 dx (.own x)) x (.ins C dx [])) (fun v H2 => v = .non ∧ Q (.ref x) H2) E
theorem w_mk (h : t σ H fun vs H1 => MkB C sp dvs E Q vs H1) : tMake C sp dvs E t σ H Q := h
theorem w_MkB (h : ∀ x dx H2, H1 x = none → H1 dx = none → Same H1 H2 → H2 x = some (.ins C dx []) → sp (.ref x :: (vs ++ dvs)) H2 (fun v H3 => v = .non ∧ Q (.ref x) H3) E) : MkB C sp dvs E Q vs H1 := fun x dx n1 n2 ne =>
  h x dx _ n1 n2 ((same_upd n2).trans (same_upd (by rw [upd_ne ne.symm]; exact n1))) upd_same
end
/-! lists set by places -/
section
variable {σ : L2.St} {H : Hp} {Q : VK} {QS : L2.St → Hp → Prop} {ta ti : TE} {ts : TSet} {v : V}
theorem w_gSub (h : ta σ H fun o H1 => ti σ H1 fun i H2 => ts o i v H2 fun H3 => QS σ H3) : gSub ta ti ts v σ H QS := h
theorem ixN_nat {n k : Nat} (h : k < n) : ixN n (k : Int) = some k := by
  unfold ixN
  rw [if_pos (by omega), if_pos (by omega), Int.toNat_natCast]
theorem w_setL {p : Addr} {xs : List V} {k : Nat} {QH : Hp → Prop} (hp : H p = some (.lst xs)) (hk : k < xs.length) (q : QH (upd H p (.lst (xs.set k v)))) : rSetL (.ref p) (.int (k : Int)) v H QH := ⟨p, xs, k, k, rfl, rfl, hp, ixN_nat hk, q⟩
end
/-! tuples of lists, tuples joined -/
def rTupOf (K : PySem.W.Frag) : List V → Hp → VK → Prop := fun xs H Q => ∃ p ys, xs = [.ref p] ∧ ((SqL K H p ys ∧ ∀ l, H l = none → Q (.ref l) (upd H l (.tup ys))) ∨ (SqT K H p ys ∧ Q (.ref p) H))
theorem c_tupK {X : Cx} (K : PySem.W.Frag) (e : X.K = K := by rfl) : CallR X (.type "tuple") (rTupOf K) := by subst e; exact call_tuple_of
theorem w_tupL {K : PySem.W.Frag} {H : Hp} {Q : VK} {p : Addr} {xs : List V} (h : SqL K H p xs) (q : ∀ l H', H l = none → Same H H' → H' l = some (.tup xs) → Q (.ref l) H') : rTupOf K [.ref p] H Q := ⟨p, xs, rfl, .inl ⟨h, fun l hl => q l _ hl (same_upd hl) upd_same⟩⟩
theorem op_catTK {X : Cx} (K : PySem.W.Frag) (e : X.K = K := by rfl) : OpR X (binaryOp .Add) (rCatT K) := by subst e; exact op_catT
theorem w_catT {K : PySem.W.Frag} {H : Hp} {Q : VK} {a b : Addr} {xs ys : List V} (ha : SqT K H a xs) (hb : SqT K H b ys) (hx : xs ≠ []) (hy : ys ≠ []) (hz : xs.length + ys.length ≤ 1000) (q : ∀ l H', H l = none → Same H H' → H' l = some (.tup (xs ++ ys)) → Q (.ref l) H') : rCatT K (.ref a) (.ref b) H Q :=
  ⟨a, b, xs, ys, rfl, rfl, ha, hb, hx, Nat.le_trans hz (by rw [sizeLine_eq]; decide), fun z => absurd z hy, fun _ l hl => q l _ hl (same_upd hl) upd_same⟩
/-- a comprehension over a tuple -/
theorem lc_t {K : PySem.W.Frag} {σ : L2.St} {H : Hp} {Q : VK} {te : TE} {vs : List Nat} {a : Addr} {j : Nat} (xs ys : List V) (hlen : ys.length = xs.length) (hS : SqT K H a xs) (hz : xs.length ≤ 1000000) (hw : ∀ x, wipe ((wipe σ vs).set j (some x)) vs = wipe σ vs)
    (he : ∀ (i : Nat) x y H' (Q' : VK), xs[i]? = some x → ys[i]? = some y → Same H H' → Q' y H' → te ((wipe σ vs).set j (some x)) H' Q')
    (q : ∀ p H', H p = none → Same H H' → H' p = some (.lst ys) → Q (.ref p) H') : LcB (Itt K a) (gName j) tYes te vs σ Q H := fun p hp =>
  lc_tup (xs := xs) (fun i H' => H' = upd H p (.lst (ys.take i))) rfl (fun i H' _ e => by
    subst e
    exact same_tup (same_upd hp) hS) (fun i x H' hx e => by
    subst e
    have hi := (List.getElem?_eq_some_iff.mp hx).1
    have hy : ys[i]? = some ys[i] := List.getElem?_eq_getElem (by omega)
    show wipe ((wipe σ vs).set j (some x)) vs = wipe σ vs ∧ te ((wipe σ vs).set j (some x)) (upd H p (.lst (ys.take i)))
      (fun y H4 => ∃ acc, H4 p = some (.lst acc) ∧ acc.length < sizeLine ∧ upd H4 p (.lst (acc ++ [y])) = upd H p (.lst (ys.take (i + 1))))
    refine ⟨hw _, he i x _ _ _ hx hy (same_upd hp) ⟨_, upd_same, ?_, ?_⟩⟩
    · rw [List.length_take]
      exact Nat.lt_of_lt_of_le (show min i ys.length < 16777216 by omega) (by rw [sizeLine_eq]; exact Nat.le_refl _)
    · rw [upd_upd, List.take_add_one, hy]
      rfl) fun H' e => by
    subst e
    refine q p _ hp (same_upd hp) ?_
    rw [upd_same, List.take_of_length_le (by omega)]
end Dpr

namespace Dpr
open PySem PySem.Spec PyProof.Rows L2
theorem natI_map (ws : List Nat) : (natI ws).map V.int = ws.map fun (z : Nat) => V.int (z : Int) := by unfold natI; rw [List.map_map]; rfl
theorem ref_at {ps : List Addr} {w : Nat} {p : Addr} (hp : ps[w]? = some p) : atI (ps.map V.ref) (w : Int) = some (.ref p) := atI_nat (by rw [List.getElem?_map, hp]; rfl)
end Dpr

namespace Dpr
open PySem PySem.Spec PyProof.Rows L2
/-! depths, row by row -/
theorem dep_own {N : Str → Prop} {ks : List Row} (ok : RowsOk N ks) {w a : Nat} {r : Row} (h : ks[w]? = some r) (ha : a ∈ ownR r) : dep ks a + 1 ≤ dep ks w := by
  rw [dep_eq ok h]
  exact (fold_top_le (fun z => dep ks z + 1) (ownR r) 0).2 a ha
theorem dep_le_of {N : Str → Prop} {ks : List Row} (ok : RowsOk N ks) {w : Nat} {r : Row} {m : Int} (h : ks[w]? = some r) (hm : 0 ≤ m) (k : ∀ a ∈ ownR r, dep ks a + 1 ≤ m) : dep ks w ≤ m := by
  rw [dep_eq ok h]
  rcases fold_top (fun z => dep ks z + 1) (ownR r) 0 with e | ⟨z, hz, e⟩
  · rw [e]; exact hm
  · rw [e]; exact k z hz
/-! which wires are needed -/
def markL (fs : List Bool) (ws : List Nat) : List Bool := ws.foldl (fun f w => f.set w true) fs
theorem mark_len : ∀ (ws : List Nat) (fs : List Bool), (markL fs ws).length = fs.length
  | [], _ => rfl
  | w :: ws, fs => by
    show (markL (fs.set w true) ws).length = fs.length
    rw [mark_len ws, List.length_set]
theorem mark_get : ∀ (ws : List Nat) (fs : List Bool) (x : Nat), x < fs.length → ((markL fs ws)[x]? = some true ↔ x ∈ ws ∨ fs[x]? = some true)
  | [], fs, x, _ => ⟨.inr, fun h => h.resolve_left (fun z => by cases z)⟩
  | w :: ws, fs, x, hx => by
    show (markL (fs.set w true) ws)[x]? = some true ↔ _
    rw [mark_get ws (fs.set w true) x (by rw [List.length_set]; exact hx), List.getElem?_set]
    by_cases e : w = x
    · subst e
      rw [if_pos rfl, if_pos hx]
      exact ⟨fun _ => .inl (List.mem_cons_self ..), fun _ => .inr rfl⟩
    · rw [if_neg e, List.mem_cons]
      exact ⟨fun h => h.elim (fun a => .inl (.inr a)) .inr, fun h => h.elim (fun a => a.elim (fun z => absurd z.symm e) .inl) .inr⟩
theorem mark_snoc (fs : List Bool) (ws : List Nat) (w : Nat) : markL fs (ws ++ [w]) = (markL fs ws).set w true := by
  unfold markL
  rw [List.foldl_append]
  rfl
def NeedI (rs : List Row) (outs : List Nat) (n i : Nat) (fs : List Bool) : Prop := fs.length = n ∧ ∀ w, w < n → (fs[w]? = some true ↔ w ∈ outs ∨ ∃ j r, n - i ≤ j ∧ rs[j]? = some r ∧ w ∈ ownR r ∧ fs[j]? = some true)
theorem NeedI.start {rs : List Row} {outs : List Nat} (n : Nat) (hn : rs.length = n) : NeedI rs outs n 0 (markL (List.replicate n false) outs) := by
  have hl : (List.replicate n false).length = n := List.length_replicate
  refine ⟨by rw [mark_len, hl], fun w hw => ?_⟩
  rw [mark_get _ _ _ (by rw [hl]; exact hw)]
  constructor
  · rintro (h | h)
    · exact .inl h
    · rw [List.getElem?_replicate, if_pos hw] at h
      cases h
  · rintro (h | ⟨j, r, h1, h2, _⟩)
    · exact .inl h
    · have := (List.getElem?_eq_some_iff.mp h2).1
      omega
theorem NeedI.skip {rs : List Row} {outs : List Nat} {n i : Nat} {fs : List Bool} (h : NeedI rs outs n i fs) (hf : ¬ fs[n - (i + 1)]? = some true) (hi : i < n) : NeedI rs outs n (i + 1) fs := by
  refine ⟨h.1, fun w hw => ?_⟩
  rw [h.2 w hw]
  constructor
  · rintro (k | ⟨j, r, h1, h2⟩)
    · exact .inl k
    · exact .inr ⟨j, r, by omega, h2⟩
  · rintro (k | ⟨j, r, h1, h2, h3, h4⟩)
    · exact .inl k
    · by_cases e : n - i ≤ j
      · exact .inr ⟨j, r, e, h2, h3, h4⟩
      · have e2 : j = n - (i + 1) := by omega
        rw [e2] at h4
        exact absurd h4 hf
theorem NeedI.mark {N : Str → Prop} {rs : List Row} {outs : List Nat} {n i : Nat} {fs : List Bool} {r : Row} (ok : RowsOk N rs) (h : NeedI rs outs n i fs) (hf : fs[n - (i + 1)]? = some true) (hi : i < n) (hr : rs[n - (i + 1)]? = some r) : NeedI rs outs n (i + 1) (markL fs (ownR r)) := by
  have lt := own_lt (ok _ r hr)
  have same : ∀ j, n - (i + 1) ≤ j → j < n → ((markL fs (ownR r))[j]? = some true ↔ fs[j]? = some true) := fun j h1 h2 => by
    rw [mark_get _ _ _ (by rw [h.1]; exact h2)]
    exact ⟨fun k => k.resolve_left (fun z => by have := lt j z; omega), .inr⟩
  have inn : ∀ j, (markL fs (ownR r))[j]? = some true → j < n := fun j z => by
    have := (List.getElem?_eq_some_iff.mp z).1
    rw [mark_len, h.1] at this
    exact this
  have inn2 : ∀ j, fs[j]? = some true → j < n := fun j z => by
    have := (List.getElem?_eq_some_iff.mp z).1
    rw [h.1] at this
    exact this
  refine ⟨by rw [mark_len]; exact h.1, fun w hw => ?_⟩
  rw [mark_get _ _ _ (by rw [h.1]; exact hw), h.2 w hw]
  constructor
  · rintro (k | k | ⟨j, s, h1, h2, h3, h4⟩)
    · exact .inr ⟨n - (i + 1), r, Nat.le_refl _, hr, k, (same _ (Nat.le_refl _) (by omega)).mpr hf⟩
    · exact .inl k
    · exact .inr ⟨j, s, by omega, h2, h3, (same j (by omega) (inn2 j h4)).mpr h4⟩
  · rintro (k | ⟨j, s, h1, h2, h3, h4⟩)
    · exact .inr (.inl k)
    · have h5 := (same j h1 (inn j h4)).mp h4
      by_cases e : n - i ≤ j
      · exact .inr (.inr ⟨j, s, e, h2, h3, h5⟩)
      · have e2 : j = n - (i + 1) := by omega
        rw [e2, hr] at h2
        cases h2
        exact .inl h3
/-! rows numbered anew -/
def cnt (fs : List Bool) (j : Nat) : Nat := (fs.take j).count true
theorem cnt_succ {fs : List Bool} {j : Nat} {b : Bool} (h : fs[j]? = some b) : cnt fs (j + 1) = cnt fs j + (if b = true then 1 else 0) := by
  unfold cnt
  rw [take_snoc h, List.count_append]
  cases b <;> rfl
theorem cnt_mono (fs : List Bool) {i j : Nat} (h : i ≤ j) : cnt fs i ≤ cnt fs j := by
  unfold cnt
  exact List.Sublist.count_le true (List.take_sublist_take_left h)
theorem cnt_lt {fs : List Bool} {i j : Nat} (h : i < j) (hi : fs[i]? = some true) : cnt fs i < cnt fs j := by
  have e := cnt_succ hi
  rw [if_pos rfl] at e
  have := cnt_mono fs (show i + 1 ≤ j from h)
  omega
theorem cnt_le (fs : List Bool) (j : Nat) : cnt fs j ≤ j := by
  unfold cnt
  exact Nat.le_trans List.count_le_length (by rw [List.length_take]; omega)
theorem cnt_inv (fs : List Bool) : ∀ (i k : Nat), i ≤ fs.length → k < cnt fs i → ∃ j, j < i ∧ fs[j]? = some true ∧ cnt fs j = k
  | 0, k, _, h => by unfold cnt at h; rw [List.take_zero] at h; simp at h
  | i + 1, k, hl, h => by
    have hi : i < fs.length := by omega
    have e := cnt_succ (List.getElem?_eq_getElem hi)
    by_cases c : k < cnt fs i
    · obtain ⟨j, h1, h2, h3⟩ := cnt_inv fs i k (by omega) c
      exact ⟨j, by omega, h2, h3⟩
    · cases g : fs[i] with
      | true =>
        rw [g, if_pos rfl] at e
        exact ⟨i, Nat.lt_succ_self _, by rw [List.getElem?_eq_getElem hi, g], by omega⟩
      | false =>
        rw [g, if_neg Bool.false_ne_true] at e
        omega
def renR (f : Nat → Nat) : Row → Row
  | .inv a => .inv (f a)
  | .bin o a b => .bin o (f a) (f b)
  | r => r
theorem own_ren (f : Nat → Nat) (r : Row) (nl : noLat r) : ownR (renR f r) = (ownR r).map f := by
  cases r <;> first | rfl | exact nl.elim
theorem ren_inj {f : Nat → Nat} {r s : Row} (n1 : noLat r) (n2 : noLat s) (i : ∀ x ∈ ownR r, ∀ y ∈ ownR s, f x = f y → x = y) (h : renR f r = renR f s) : r = s := by
  cases r with
  | fix b =>
    cases s with
    | fix c => exact h
    | lat c => exact n2.elim
    | _ => exact Row.noConfusion h
  | inn m k =>
    cases s with
    | inn c d => exact h
    | lat c => exact n2.elim
    | _ => exact Row.noConfusion h
  | lat a => exact n1.elim
  | inv a =>
    cases s with
    | inv b => rw [i a (List.mem_cons_self ..) b (List.mem_cons_self ..) (Row.inv.inj h)]
    | lat c => exact n2.elim
    | _ => exact Row.noConfusion h
  | bin p a b =>
    cases s with
    | bin q c d =>
      obtain ⟨e1, e2, e3⟩ := Row.bin.inj h
      rw [e1, i a (List.mem_cons_self ..) c (List.mem_cons_self ..) e2, i b (List.mem_cons_of_mem _ (List.mem_cons_self ..)) d (List.mem_cons_of_mem _ (List.mem_cons_self ..)) e3]
    | lat c => exact n2.elim
    | _ => exact Row.noConfusion h
def Ren (rs : List Row) (fs : List Bool) (i : Nat) (made : List Row) : Prop := made.length = cnt fs i ∧ ∀ j r, j < i → rs[j]? = some r → fs[j]? = some true → made[cnt fs j]? = some (renR (cnt fs) r)
theorem Ren.start (rs : List Row) (fs : List Bool) : Ren rs fs 0 [] := ⟨rfl, fun j r h => by omega⟩
theorem Ren.skip {rs : List Row} {fs : List Bool} {i : Nat} {made : List Row} (h : Ren rs fs i made) (hi : fs[i]? = some false) : Ren rs fs (i + 1) made := by
  refine ⟨by rw [cnt_succ hi, h.1]; rfl, fun j r hj hr hf => ?_⟩
  by_cases e : j < i
  · exact h.2 j r e hr hf
  · rw [show j = i by omega, hi] at hf
    cases hf
theorem Ren.put {rs : List Row} {fs : List Bool} {i : Nat} {made : List Row} {r : Row} (h : Ren rs fs i made) (hi : fs[i]? = some true) (hr : rs[i]? = some r) : Ren rs fs (i + 1) (made ++ [renR (cnt fs) r]) := by
  refine ⟨by rw [List.length_append, cnt_succ hi, h.1]; rfl, fun j s hj hs hf => ?_⟩
  by_cases e : j < i
  · have := cnt_lt e hf
    rw [List.getElem?_append_left (by rw [h.1]; exact this)]
    exact h.2 j s e hs hf
  · obtain rfl : j = i := by omega
    rw [hr] at hs
    cases hs
    rw [← h.1, List.getElem?_append_right (Nat.le_refl _), Nat.sub_self]
    rfl
/-! rows made fewer -/
structure FewOk (N : Str → Prop) (rs : List Row) (outs : List Nat) (made : List Row) (outs' : List Nat) : Prop where
  kok : KOk N rs made
  len : made.length ≤ rs.length
  olen : outs'.length = outs.length
  olt : ∀ o ∈ outs', o < made.length
  same : ∀ (i o o' : Nat), outs[i]? = some o → outs'[i]? = some o' → (∀ ws, bit ws made o' = bit ws rs o) ∧ dep made o' ≤ dep rs o
  used : ∀ k, k < made.length → k ∈ outs' ∨ ∃ (j : Nat) (r : Row), made[j]? = some r ∧ k ∈ ownR r
section
variable {N : Str → Prop} {old ks made : List Row} {outs : List Nat} {fs : List Bool}
theorem ren_row (kok : KOk N old ks) (hR : Ren ks fs ks.length made) (hl : fs.length = ks.length) {k : Nat} {s : Row} (h : made[k]? = some s) : ∃ j r, ks[j]? = some r ∧ fs[j]? = some true ∧ cnt fs j = k ∧ s = renR (cnt fs) r := by
  have hk := (List.getElem?_eq_some_iff.mp h).1
  rw [hR.1] at hk
  obtain ⟨j, h1, h2, h3⟩ := cnt_inv fs _ k (by rw [hl]; exact Nat.le_refl _) hk
  refine ⟨j, ks[j], List.getElem?_eq_getElem h1, h2, h3, ?_⟩
  have e := hR.2 j _ h1 (List.getElem?_eq_getElem h1) h2
  rw [h3, h] at e
  exact Option.some.inj e
theorem need_own (hN : NeedI ks outs ks.length ks.length fs) (ok : RowsOk N ks) {j a : Nat} {r : Row} (hr : ks[j]? = some r) (hf : fs[j]? = some true) (ha : a ∈ ownR r) : a < j ∧ fs[a]? = some true := by
  have lt := own_lt (ok j r hr) a ha
  have hj := (List.getElem?_eq_some_iff.mp hr).1
  exact ⟨lt, (hN.2 a (by omega)).mpr (.inr ⟨j, r, by omega, hr, ha, hf⟩)⟩
theorem ren_ok (kok : KOk N old ks) (hN : NeedI ks outs ks.length ks.length fs) (hR : Ren ks fs ks.length made) : KOk N old made := by
  have row := fun {k : Nat} {s : Row} (h : made[k]? = some s) => ren_row kok hR hN.1 h
  have inj : ∀ (i j : Nat), fs[i]? = some true → fs[j]? = some true → cnt fs i = cnt fs j → i = j := fun i j hi hj e => by
    rcases Nat.lt_trichotomy i j with q | q | q
    · have := cnt_lt q hi; omega
    · exact q
    · have := cnt_lt q hj; omega
  have own : ∀ {j : Nat} {r : Row}, ks[j]? = some r → fs[j]? = some true → ∀ a ∈ ownR r, cnt fs a < cnt fs j ∧ fs[a]? = some true := fun hr hf a ha => by
    obtain ⟨h1, h2⟩ := need_own hN kok.ok hr hf ha
    exact ⟨cnt_lt h1 h2, h2⟩
  have at' : ∀ {j : Nat} {r : Row}, ks[j]? = some r → fs[j]? = some true → made[cnt fs j]? = some (renR (cnt fs) r) := fun hr hf => hR.2 _ _ (List.getElem?_eq_some_iff.mp hr).1 hr hf
  have back : ∀ {a : Nat} {s : Row}, fs[a]? = some true → made[cnt fs a]? = some s → ∃ r, ks[a]? = some r ∧ s = renR (cnt fs) r := fun {a s} ha hs => by
    obtain ⟨j, r, h1, h2, h3, h4⟩ := row hs
    obtain rfl := inj _ _ h2 ha h3
    exact ⟨r, h1, h4⟩
  have nofix : ∀ {a : Nat}, fs[a]? = some true → ¬ fixAt ks a → ¬ fixAt made (cnt fs a) := fun {a} ha hn ⟨b, hb⟩ => by
    obtain ⟨r, h1, h2⟩ := back ha hb
    cases r with
    | fix c => exact hn ⟨c, h1⟩
    | _ => cases h2
  have noinv : ∀ {a : Nat}, fs[a]? = some true → ¬ invAt ks a → ¬ invAt made (cnt fs a) := fun {a} ha hn ⟨b, hb⟩ => by
    obtain ⟨r, h1, h2⟩ := back ha hb
    cases r with
    | inv c => exact hn ⟨c, h1⟩
    | _ => cases h2
  refine ⟨fun k s hs => ?_, fun s hs => ?_, ?_, fun s hs => ?_, fun n k hs => ?_⟩
  · obtain ⟨j, r, h1, h2, h3, rfl⟩ := row hs
    have o := own h1 h2
    have okr := kok.ok j r h1
    rw [← h3]
    cases r with
    | fix b => exact okr
    | inn m k => exact okr
    | inv a => exact (o a (List.mem_cons_self ..)).1
    | bin p a b => exact ⟨(o a (List.mem_cons_self ..)).1, (o b (List.mem_cons_of_mem _ (List.mem_cons_self ..))).1⟩
    | lat a => exact (kok.nl _ (List.mem_of_getElem? h1)).elim
  · obtain ⟨k, hk⟩ := List.mem_iff_getElem?.mp hs
    obtain ⟨j, r, h1, h2, h3, rfl⟩ := row hk
    have := kok.nl _ (List.mem_of_getElem? h1)
    cases r <;> first | exact True.intro | exact this.elim
  · rw [List.nodup_iff_pairwise_ne, List.pairwise_iff_getElem]
    intro i j hi hj hij e
    obtain ⟨i', r, h1, h2, h3, h4⟩ := row (List.getElem?_eq_getElem hi)
    obtain ⟨j', s, g1, g2, g3, g4⟩ := row (List.getElem?_eq_getElem hj)
    rw [e, g4] at h4
    have o1 := own h1 h2
    have o2 := own g1 g2
    have n1 := kok.nl _ (List.mem_of_getElem? h1)
    have n2 := kok.nl _ (List.mem_of_getElem? g1)
    have e2 : r = s := ren_inj n1 n2 (fun x hx y hy e => inj x y (o1 x hx).2 (o2 y hy).2 e) h4.symm
    subst e2
    have hj' := (List.getElem?_eq_some_iff.mp h1)
    have hi' := (List.getElem?_eq_some_iff.mp g1)
    have : i' = j' := (List.getElem_inj kok.nd).mp (hj'.2.trans hi'.2.symm)
    subst this
    omega
  · obtain ⟨k, hk⟩ := List.mem_iff_getElem?.mp hs
    obtain ⟨j, r, h1, h2, h3, rfl⟩ := row hk
    have o := own h1 h2
    have f := kok.form r (List.mem_of_getElem? h1)
    cases r with
    | inv a =>
      have ha := (o a (List.mem_cons_self ..)).2
      exact ⟨nofix ha f.1, noinv ha f.2⟩
    | bin p a b =>
      have ha := (o a (List.mem_cons_self ..)).2
      have hb := (o b (List.mem_cons_of_mem _ (List.mem_cons_self ..))).2
      exact ⟨cnt_lt f.1 ha, nofix ha f.2.1, nofix hb f.2.2⟩
    | _ => exact True.intro
  · obtain ⟨i, hi⟩ := List.mem_iff_getElem?.mp hs
    obtain ⟨j, r, h1, h2, h3, h4⟩ := row hi
    cases r with
    | inn m l =>
      have e := h4
      unfold renR at e
      rw [e]
      exact kok.ins m l (List.mem_of_getElem? h1)
    | _ => cases h4
theorem ren_same (kok : KOk N old ks) (hN : NeedI ks outs ks.length ks.length fs) (hR : Ren ks fs ks.length made) : ∀ (n j : Nat), j < n → fs[j]? = some true → (∀ ws, bit ws made (cnt fs j) = bit ws ks j) ∧ dep made (cnt fs j) ≤ dep ks j
  | 0, j, h, _ => by omega
  | n + 1, j, h, hf => by
    have ok' := (ren_ok kok hN hR).ok
    have ih := ren_same kok hN hR n
    have hj : j < ks.length := by
      have := (List.getElem?_eq_some_iff.mp hf).1
      rw [hN.1] at this
      exact this
    have hr := List.getElem?_eq_getElem hj
    have hm := hR.2 j _ hj hr hf
    have o := fun a ha => need_own hN kok.ok hr hf (a := a) ha
    refine ⟨fun ws => ?_, ?_⟩
    · generalize ks[j] = r at *
      cases r with
      | fix b => rw [bit_fix hr, bit_fix hm]
      | inn m k => rw [bit_inn hr, bit_inn hm]
      | inv a =>
        obtain ⟨h1, h2⟩ := o a (List.mem_cons_self ..)
        rw [bit_inv kok.ok hr, bit_inv ok' hm, (ih a (by omega) h2).1]
      | bin p a b =>
        obtain ⟨h1, h2⟩ := o a (List.mem_cons_self ..)
        obtain ⟨g1, g2⟩ := o b (List.mem_cons_of_mem _ (List.mem_cons_self ..))
        rw [bit_bin kok.ok hr, bit_bin ok' hm, (ih a (by omega) h2).1, (ih b (by omega) g2).1]
      | lat a => exact (kok.nl _ (List.mem_of_getElem? hr)).elim
    · refine dep_le_of ok' hm (dep_nn kok.ok j) fun a ha => ?_
      rw [own_ren _ _ (kok.nl _ (List.mem_of_getElem? hr))] at ha
      obtain ⟨b, hb, rfl⟩ := List.mem_map.mp ha
      obtain ⟨h1, h2⟩ := o b hb
      have := dep_own kok.ok hr hb
      have := (ih b (by omega) h2).2
      omega
theorem few_of {rs : List Row} {new : List Nat} {os : List Nat} (kok : KOk N rs ks) (hlen : ks.length ≤ rs.length) (hnl : ∀ w ∈ new, w < ks.length) (hol : ∀ o ∈ os, o < new.length)
    (hnew : ∀ (i w : Nat), new[i]? = some w → (∀ ws, bit ws ks w = bit ws rs i) ∧ dep ks w ≤ dep rs i) (ho : outs = os.map fun o => new.getD o 0) (hN : NeedI ks outs ks.length ks.length fs) (hR : Ren ks fs ks.length made) :
    FewOk N rs os made (outs.map (cnt fs)) := by
  have kok' := ren_ok kok hN hR
  have oget : ∀ (i o : Nat), os[i]? = some o → ∃ w, new[o]? = some w ∧ outs[i]? = some w := fun i o h => by
    have h2 := hol o (List.mem_of_getElem? h)
    refine ⟨new[o], List.getElem?_eq_getElem h2, ?_⟩
    rw [ho, List.getElem?_map, h, Option.map_some, List.getD_eq_getElem?_getD, List.getElem?_eq_getElem h2]
    rfl
  have need : ∀ w ∈ outs, w < ks.length ∧ fs[w]? = some true := fun w hw => by
    have hw0 := hw
    rw [ho] at hw
    obtain ⟨o, h1, h2⟩ := List.mem_map.mp hw
    obtain ⟨i, hi⟩ := List.mem_iff_getElem?.mp h1
    obtain ⟨w', g1, g2⟩ := oget i o hi
    rw [List.getD_eq_getElem?_getD, g1] at h2
    have e : w' = w := h2
    rw [e] at g1
    have hlt := hnl w (List.mem_of_getElem? g1)
    exact ⟨hlt, (hN.2 w hlt).mpr (.inl hw0)⟩
  have mlen : made.length ≤ ks.length := by rw [hR.1]; exact cnt_le _ _
  refine ⟨kok', Nat.le_trans mlen hlen, by rw [List.length_map, ho, List.length_map], fun o h => ?_, fun i o o' h1 h2 => ?_, fun k hk => ?_⟩
  · obtain ⟨w, hw, rfl⟩ := List.mem_map.mp h
    obtain ⟨h1, h2⟩ := need w hw
    rw [hR.1]
    exact cnt_lt h1 h2
  · obtain ⟨w, g1, g2⟩ := oget i o h1
    rw [List.getElem?_map, g2] at h2
    cases h2
    have hw := (need w (List.mem_of_getElem? g2)).2
    have r := ren_same kok hN hR (w + 1) w (Nat.lt_succ_self _) hw
    have s := hnew o w g1
    exact ⟨fun ws => (r.1 ws).trans (s.1 ws), Int.le_trans r.2 s.2⟩
  · rw [hR.1] at hk
    obtain ⟨j, h1, h2, h3⟩ := cnt_inv fs _ k (by rw [hN.1]; exact Nat.le_refl _) hk
    rcases (hN.2 j h1).mp h2 with q | ⟨i, r, q1, q2, q3, q4⟩
    · exact .inl (List.mem_map.mpr ⟨j, q, h3⟩)
    · refine .inr ⟨cnt fs i, _, hR.2 i r (List.getElem?_eq_some_iff.mp q2).1 q2 q4, ?_⟩
      rw [own_ren _ _ (kok.nl _ (List.mem_of_getElem? q2))]
      exact List.mem_map.mpr ⟨j, q3, h3⟩
end
end Dpr

namespace Dpr
open PySem PySem.Spec PyProof.Rows L2
/-! lists of lists of wires -/
def NatsAt (H : Hp) (p : Addr) (xs : List Nat) : Prop := H p = some (.lst ((natI xs).map V.int))
def Cols (H : Hp) (c : Addr) (ps : List Addr) (cols : List (List Nat)) : Prop := H c = some (.lst (ps.map V.ref)) ∧ A2 (NatsAt H) ps cols ∧ ps.Nodup
theorem nats_ref {xs : List Nat} {ps : List Addr} (h : ps.map V.ref = (natI xs).map V.int) : ps = [] := by
  cases ps with
  | nil => rfl
  | cons p r =>
    cases xs with
    | nil => cases h
    | cons x s => cases h
theorem Cols.cn {H : Hp} {c : Addr} {ps : List Addr} {cols : List (List Nat)} (h : Cols H c ps cols) : c ∉ ps := fun m => by
  obtain ⟨i, hi⟩ := List.mem_iff_getElem?.mp m
  obtain ⟨xs, _, e⟩ := h.2.1.get hi
  have e2 : H c = some (.lst ((natI xs).map V.int)) := e
  rw [h.1] at e2
  have := nats_ref (HO.lst.inj (Option.some.inj e2))
  rw [this] at m
  cases m
theorem Cols.at {H : Hp} {c : Addr} {ps : List Addr} {cols : List (List Nat)} (h : Cols H c ps cols) {p : Addr} (m : p ∈ ps) : ∃ xs, H p = some (.lst ((natI xs).map V.int)) := by
  obtain ⟨i, hi⟩ := List.mem_iff_getElem?.mp m
  obtain ⟨xs, _, e⟩ := h.2.1.get hi
  exact ⟨xs, e⟩
theorem Cols.fr {ms : List Addr} {H H' : Hp} {c : Addr} {ps : List Addr} {cols : List (List Nat)} (f : Fr ms H H') (nc : c ∉ ms) (np : ∀ p ∈ ps, p ∉ ms) (h : Cols H c ps cols) : Cols H' c ps cols :=
  ⟨f _ _ h.1 nc, h.2.1.mono2 fun p xs m e => f _ _ e (np p m), h.2.2⟩
theorem A2.mono3 {α β : Type} {R S : α → β → Prop} {xs : List α} {ys : List β} (h : A2 R xs ys) (k : ∀ x y, x ∈ xs → R x y → S x y) : A2 S xs ys := ⟨h.1, fun i x y a b => k x y (List.mem_of_getElem? a) (h.2 i x y a b)⟩
theorem Cols.same {H H' : Hp} {c : Addr} {ps : List Addr} {cols : List (List Nat)} (s : Same H H') (h : Cols H c ps cols) : Cols H' c ps cols := ⟨s _ _ h.1, h.2.1.mono fun _ _ e => s _ _ e, h.2.2⟩
theorem Cols.put {H : Hp} {c p : Addr} {ps : List Addr} {cols : List (List Nat)} {k : Nat} {ys : List Nat} (h : Cols H c ps cols) (hp : ps[k]? = some p) : Cols (upd H p (.lst ((natI ys).map V.int))) c ps (cols.set k ys) := by
  have hm := List.mem_of_getElem? hp
  have hk := (List.getElem?_eq_some_iff.mp hp).1
  refine ⟨?_, ⟨by rw [List.length_set]; exact h.2.1.1, fun i x zs hx hz => ?_⟩, h.2.2⟩
  · rw [upd_ne (fun z => h.cn (by rw [z]; exact hm))]
    exact h.1
  · rw [List.getElem?_set] at hz
    by_cases e : k = i
    · subst e
      rw [if_pos rfl] at hz
      rw [hp] at hx
      cases hx
      split at hz
      · cases hz
        exact upd_same
      · cases hz
    · rw [if_neg e] at hz
      have ne : x ≠ p := fun z => by
        rw [z] at hx
        have h1 := List.getElem?_eq_some_iff.mp hx
        have h2 := List.getElem?_eq_some_iff.mp hp
        exact e ((List.getElem_inj h.2.2).mp (h2.2.trans h1.2.symm))
      show upd H p _ x = _
      rw [upd_ne ne]
      exact h.2.1.2 i x zs hx hz
def addC (cols : List (List Nat)) (k w : Nat) : List (List Nat) := match cols[k]? with
  | some xs => cols.set k (xs ++ [w])
  | none => cols
theorem addC_set {cols : List (List Nat)} {k w : Nat} {xs : List Nat} (h : cols[k]? = some xs) : addC cols k w = cols.set k (xs ++ [w]) := by
  unfold addC
  rw [h]
theorem addC_no {cols : List (List Nat)} {k w : Nat} (h : cols.length ≤ k) : addC cols k w = cols := by
  unfold addC
  rw [List.getElem?_eq_none h]
theorem addC_len (cols : List (List Nat)) (k w : Nat) : (addC cols k w).length = cols.length := by
  unfold addC
  cases e : cols[k]? with
  | some xs => exact List.length_set
  | none => rfl
/-- fresh empty lists -/
theorem lc_empties {σ : L2.St} {H : Hp} {Q : VK} {vs : List Nat} {lo : Int} {n j : Nat} (hn : n < 1000000) (hw : ∀ x, wipe ((wipe σ vs).set j (some x)) vs = wipe σ vs)
    (q : ∀ (c : Addr) (ps : List Addr) H', ps.length = n → H c = none → (∀ p ∈ ps, H p = none) → Same H H' → Cols H' c ps (List.replicate n []) → Q (.ref c) H') : LcB (Itr lo n) (gName j) tYes (tLst tNil) vs σ Q H := fun D hD =>
  lc_range (lo := lo) (n := n) (fun i H' => ∃ ps : List Addr, ps.length = i ∧ H' D = some (.lst (ps.map V.ref)) ∧ (∀ p ∈ ps, H' p = some (.lst []) ∧ H p = none) ∧ ps.Nodup ∧ D ∉ ps ∧ Same H H') ⟨[], rfl, upd_same, fun y h => (by cases h), List.nodup_nil, fun h => (by cases h), same_upd hD⟩ (fun i H' hi e => by
    obtain ⟨ps, hl, hd, hp, nd, dn, sm⟩ := e
    show wipe ((wipe σ vs).set j (some (V.int (lo + (i : Int))))) vs = wipe σ vs ∧ (([] : List V).length ≤ sizeLine ∧ ∀ l, H' l = none → ∃ acc, (upd H' l (.lst [])) D = some (.lst acc) ∧ acc.length < sizeLine ∧
      ∃ ps : List Addr, ps.length = i + 1 ∧ (upd (upd H' l (.lst [])) D (.lst (acc ++ [.ref l]))) D = some (.lst (ps.map V.ref)) ∧ (∀ p ∈ ps, (upd (upd H' l (.lst [])) D (.lst (acc ++ [.ref l]))) p = some (.lst []) ∧ H p = none) ∧ ps.Nodup ∧ D ∉ ps ∧ Same H (upd (upd H' l (.lst [])) D (.lst (acc ++ [.ref l]))))
    refine ⟨hw _, Nat.zero_le _, fun l hl0 => ?_⟩
    have ld : l ≠ D := fun z => by rw [z, hd] at hl0; cases hl0
    have lp : l ∉ ps := fun z => by rw [(hp l z).1] at hl0; cases hl0
    have lH : H l = none := sm.free hl0
    refine ⟨ps.map V.ref, by rw [upd_ne ld.symm]; exact hd, ?_, ps ++ [l], ?_, ?_, ?_, ?_, ?_, ?_⟩
    · rw [List.length_map, hl]
      exact Nat.lt_of_lt_of_le (show i < 16777216 by omega) (by rw [sizeLine_eq]; exact Nat.le_refl _)
    · rw [List.length_append, hl]; rfl
    · rw [upd_same, List.map_append]; rfl
    · intro p z
      rcases List.mem_append.mp z with z | z
      · refine ⟨?_, (hp p z).2⟩
        rw [upd_ne (fun w => dn (by rw [← w]; exact z)), upd_ne (fun w => lp (by rw [← w]; exact z))]
        exact (hp p z).1
      · rw [List.mem_singleton.mp z]
        refine ⟨?_, lH⟩
        rw [upd_ne ld, upd_same]
    · refine List.nodup_append.mpr ⟨nd, List.nodup_cons.mpr ⟨(fun z => by cases z), List.nodup_nil⟩, fun x hx y hy e => ?_⟩
      rw [List.mem_singleton.mp hy] at e
      exact lp (e ▸ hx)
    · intro z
      rcases List.mem_append.mp z with z | z
      · exact dn z
      · exact ld (List.mem_singleton.mp z).symm
    · exact same_mut (sm.trans (same_upd hl0)) hD) fun H' e => by
    obtain ⟨ps, hl, hd, hp, nd, dn, sm⟩ := e
    refine q D ps H' hl hD (fun p m => (hp p m).2) sm ⟨hd, ⟨by rw [List.length_replicate, hl], fun i x y hx hy => ?_⟩, nd⟩
    rw [List.getElem?_replicate] at hy
    split at hy
    · cases hy
      exact (hp x (List.mem_of_getElem? hx)).1
    · cases hy
theorem w_clear {H : Hp} {Q : VK} {p : Addr} {xs : List V} (e : H p = some (.lst xs)) (q : Q .non (upd H p (.lst []))) : rClear (.ref p) [] H Q := ⟨p, xs, rfl, rfl, e, q⟩
theorem w_pop0 {H : Hp} {Q : VK} {p : Addr} {x : V} {r : List V} (e : H p = some (.lst (x :: r))) (q : Q x (upd H p (.lst r))) : rPopAt (.ref p) [.int 0] H Q :=
  ⟨p, _, 0, 0, x, rfl, rfl, e, by decide, by decide, by
    unfold seqIndex?
    rw [List.length_cons]
    simp, rfl, q⟩
theorem Cols.refs {H : Hp} {c a p : Addr} {ps : List Addr} {cols : List (List Nat)} {r : List V} (h : Cols H c ps cols) (e : H a = some (.lst (.ref p :: r))) : a ∉ ps := fun m => by
  obtain ⟨xs, e2⟩ := h.at m
  rw [e] at e2
  cases xs with
  | nil => cases e2
  | cons x s => cases e2
def lens (cols : List (List Nat)) : List Nat := cols.map (·.length)
theorem Cols.ix {H : Hp} {c : Addr} {ps : List Addr} {cols : List (List Nat)} (h : Cols H c ps cols) {k : Nat} (hk : k < cols.length) : ∃ (p : Addr) (xs : List Nat), ps[k]? = some p ∧ cols[k]? = some xs ∧ atI (ps.map V.ref) (k : Int) = some (.ref p) ∧ H p = some (.lst ((natI xs).map V.int)) := by
  have hkp : k < ps.length := by rw [h.2.1.1]; exact hk
  have h1 := List.getElem?_eq_getElem hkp
  have h2 := List.getElem?_eq_getElem hk
  exact ⟨_, _, h1, h2, atI_nat (by rw [List.getElem?_map, h1]; rfl), h.2.1.2 k _ _ h1 h2⟩
end Dpr

namespace Dpr
open PySem PySem.Spec PyProof.Rows L2
/-! max and min of a tuple of ints -/
section
variable {prog : Program} {w : World} {A : Around} {E : Value → Shared → Prop} {s : Shared} {l : Addr} {xs : Array (Int × Tok)}
theorem iter_intTup {Q : Value → Shared → Prop} (hl : s.heap.IsTuple l (intItems xs))
    (h : ∀ s₂ : Shared, s₂ = { s with heap := s.heap.push { cls := .type "tuple_iterator", data := .fields #[.ref l, .int 0 0] } } →
      (s₂.heap.IsTupleIter s.heap.objs.size l 0 ∧ s₂.heap.IsTuple l (intItems xs)) → (∀ b ∈ [s.heap.objs.size, l], b < s₂.heap.objs.size) → l ≠ s.heap.objs.size → Q (.ref s.heap.objs.size) s₂) :
    wpAny (model prog w) A (pyIter (.ref l)) Q E s := by
  have hlt : l < s.heap.objs.size := by obtain ⟨_, e, _⟩ := hl; exact Heap.lt_size e
  refine wpAny_pyIter_tuple hl (h _ rfl ⟨⟨_, Heap.get?_push_size _ rfl, rfl, rfl⟩, hl.push _⟩ (fun b hb => ?_) (Nat.ne_of_lt hlt))
  show b < (s.heap.push _).objs.size
  rw [Heap.size_push]
  rcases List.mem_cons.mp hb with rfl | hb
  · exact Nat.lt_succ_self _
  · rcases List.mem_cons.mp hb with rfl | hb
    · exact Nat.lt_succ_of_lt hlt
    · cases hb
theorem old_keptT {h' : Heap} (hk : ∀ b o, b ∉ [s.heap.objs.size] → (s.heap.push { cls := .type "tuple_iterator", data := .fields #[.ref l, .int 0 0] }).get? b = some o → h'.get? b = some o) :
    ∀ b o, s.heap.get? b = some o → h'.get? b = some o := fun b o e => by
  refine hk b o (fun hm => ?_) (Heap.get?_push_of_some _ e)
  rcases List.mem_cons.mp hm with e1 | hm
  · exact absurd (e1 ▸ Heap.lt_size e) (Nat.lt_irrefl _)
  · cases hm
theorem max_intTup {Q : Value → Shared → Prop} (hh : A.handled = none) (hl : s.heap.IsTuple l (intItems xs)) (hne : 0 < xs.size)
    (h : ∀ v h' tk, (intItems xs)[argBest (fun i j => decide (numAt xs i > numAt xs j)) (xs.size - 1)]? = some v → (∀ b o, s.heap.get? b = some o → h'.get? b = some o) → Q v { s with heap := h', toks := tk }) :
    wpAny (model prog w) A (call (.builtin "max") [.ref l]) Q E s := by
  refine call_max_walk (iter_intTup hl fun s₂ e st hfp hlI => ?_)
  subst e
  refine ⟨_, _, _, _, _, _, _, rfl, Walks.tuple (A := A.in1) hh _ l hlI (intItems xs), st, hfp, by simpa [intItems] using hne, CmpOf.ints_gt (numAt xs) (fun _ _ => intItems_at), fun v h' tk hP hk => ?_⟩
  exact h v h' tk (by simpa [intItems] using hP) (old_keptT hk)
theorem min_intTup {Q : Value → Shared → Prop} (hh : A.handled = none) (hl : s.heap.IsTuple l (intItems xs)) (hne : 0 < xs.size)
    (h : ∀ v h' tk, (intItems xs)[argBest (fun i j => decide (numAt xs i < numAt xs j)) (xs.size - 1)]? = some v → (∀ b o, s.heap.get? b = some o → h'.get? b = some o) → Q v { s with heap := h', toks := tk }) :
    wpAny (model prog w) A (call (.builtin "min") [.ref l]) Q E s := by
  refine call_min_walk (iter_intTup hl fun s₂ e st hfp hlI => ?_)
  subst e
  refine ⟨_, _, _, _, _, _, _, rfl, Walks.tuple (A := A.in1) hh _ l hlI (intItems xs), st, hfp, by simpa [intItems] using hne, CmpOf.ints_lt (numAt xs) (fun _ _ => intItems_at), fun v h' tk hP hk => ?_⟩
  exact h v h' tk (by simpa [intItems] using hP) (old_keptT hk)
variable {its : List Value} {ns : List Int}
theorem max_rawT {Q : Value → Shared → Prop} (hh : A.handled = none) (hl : s.heap.IsTuple l its.toArray) (hi : IntsAre its ns) (hne : 0 < ns.length)
    (h : ∀ h' tk M t', (∀ b o, s.heap.get? b = some o → h'.get? b = some o) → M ∈ ns → (∀ a, a ∈ ns → a ≤ M) → Q (.int M t') { s with heap := h', toks := tk }) : wpAny (model prog w) A (call (.builtin "max") [.ref l]) Q E s := by
  obtain ⟨xs, e⟩ := hi.allInts.items
  have hn : numsOf (intItems xs).toList = ns := by rw [← e]; exact hi.numsOf
  rw [nums_intItems] at hn
  subst hn
  rw [e] at hl
  have hsz : 0 < xs.size := by simpa using hne
  refine max_intTup hh hl hsz fun v h' tk hv hk => ?_
  obtain ⟨t, rfl⟩ := intItems_at hv
  obtain ⟨h1, h2⟩ := argBest_gt (numAt xs) (xs.size - 1)
  refine h h' tk _ t hk ?_ fun a ha => ?_
  · rw [numAt_eq]; exact PySem.getD_mem (by rw [List.length_map, Array.length_toList]; omega)
  · obtain ⟨j, hj, rfl⟩ := mem_getD ha
    rw [List.length_map, Array.length_toList] at hj
    rw [← numAt_eq]; exact h2 j (by omega)
theorem min_rawT {Q : Value → Shared → Prop} (hh : A.handled = none) (hl : s.heap.IsTuple l its.toArray) (hi : IntsAre its ns) (hne : 0 < ns.length)
    (h : ∀ h' tk M t', (∀ b o, s.heap.get? b = some o → h'.get? b = some o) → M ∈ ns → (∀ a, a ∈ ns → M ≤ a) → Q (.int M t') { s with heap := h', toks := tk }) : wpAny (model prog w) A (call (.builtin "min") [.ref l]) Q E s := by
  obtain ⟨xs, e⟩ := hi.allInts.items
  have hn : numsOf (intItems xs).toList = ns := by rw [← e]; exact hi.numsOf
  rw [nums_intItems] at hn
  subst hn
  rw [e] at hl
  have hsz : 0 < xs.size := by simpa using hne
  refine min_intTup hh hl hsz fun v h' tk hv hk => ?_
  obtain ⟨t, rfl⟩ := intItems_at hv
  obtain ⟨h1, h2⟩ := argBest_lt (numAt xs) (xs.size - 1)
  refine h h' tk _ t hk ?_ fun a ha => ?_
  · rw [numAt_eq]; exact PySem.getD_mem (by rw [List.length_map, Array.length_toList]; omega)
  · obtain ⟨j, hj, rfl⟩ := mem_getD ha
    rw [List.length_map, Array.length_toList] at hj
    rw [← numAt_eq]; exact h2 j (by omega)
end
def rMaxT (K : PySem.W.Frag) : List V → Hp → VK → Prop := fun vs H Q => ∃ (a : Addr) (ns : List Int), vs = [V.ref a] ∧ SqT K H a (ns.map V.int) ∧ 0 < ns.length ∧ ∀ m, m ∈ ns → (∀ y, y ∈ ns → y ≤ m) → Q (.int m) H
def rMinT (K : PySem.W.Frag) : List V → Hp → VK → Prop := fun vs H Q => ∃ (a : Addr) (ns : List Int), vs = [V.ref a] ∧ SqT K H a (ns.map V.int) ∧ 0 < ns.length ∧ ∀ m, m ∈ ns → (∀ y, y ∈ ns → m ≤ y) → Q (.int m) H
theorem cr_maxT {X : Cx} (K : PySem.W.Frag) (ek : X.K = K := by rfl) (hc : X.calm = true := by rfl) : CallR X (.builtin "max") (rMaxT K) := by
  subst ek
  intro pins s σ H vs us Q I r h
  obtain ⟨a, ns, rfl, hs, hne, q⟩ := h
  obtain ⟨its, rv, hl, _⟩ := I.tuple hs
  rw [Vals.ref1 r]
  exact max_rawT (I.ok.hd hc) hl rv.ints hne fun h' tk m t' hk h1 h2 => ⟨.int _, H, I.kept hk, ⟨_, rfl⟩, q m h1 h2⟩
theorem cr_minT {X : Cx} (K : PySem.W.Frag) (ek : X.K = K := by rfl) (hc : X.calm = true := by rfl) : CallR X (.builtin "min") (rMinT K) := by
  subst ek
  intro pins s σ H vs us Q I r h
  obtain ⟨a, ns, rfl, hs, hne, q⟩ := h
  obtain ⟨its, rv, hl, _⟩ := I.tuple hs
  rw [Vals.ref1 r]
  exact min_rawT (I.ok.hd hc) hl rv.ints hne fun h' tk m t' hk h1 h2 => ⟨.int _, H, I.kept hk, ⟨_, rfl⟩, q m h1 h2⟩
theorem w_maxT {K : PySem.W.Frag} {H : Hp} {Q : VK} {p : Addr} {ns : List Int} (h : SqT K H p (ns.map V.int)) (hn : 0 < ns.length) (q : ∀ m, m ∈ ns → (∀ y ∈ ns, y ≤ m) → Q (.int m) H) : rMaxT K [.ref p] H Q := ⟨p, ns, rfl, h, hn, q⟩
theorem w_minT {K : PySem.W.Frag} {H : Hp} {Q : VK} {p : Addr} {ns : List Int} (h : SqT K H p (ns.map V.int)) (hn : 0 < ns.length) (q : ∀ m, m ∈ ns → (∀ y ∈ ns, m ≤ y) → Q (.int m) H) : rMinT K [.ref p] H Q := ⟨p, ns, rfl, h, hn, q⟩
end Dpr

namespace Dpr
open PySem PySem.Spec PyProof.Rows L2
/-- for (x, y, ..) in a list that stands -/
theorem for_lg {K : PySem.W.Frag} {D : Ends} {σ : L2.St} {H : Hp} {t : TS} {g : TG} {a : Addr} (xs : List V) (Pv : Nat → L2.St → Hp → Prop) (h0 : Pv 0 σ H) (hl : ∀ i σ H, i ≤ xs.length → Pv i σ H → SqL K H a xs)
    (hs : ∀ i x σ' H', xs[i]? = some x → Pv i σ' H' → g x σ' H' fun σ2 H2 => t { D with nx := Pv (i + 1), ct := Pv (i + 1), bk := D.nx } σ2 H2) (hd : ∀ σ' H', Pv xs.length σ' H' → D.nx σ' H') : ForB (Itl K a) g t D σ H :=
  for_list Pv h0 hl hs hd
/-! [tab[w] for w in a tuple, a list] -/
section
variable {K : PySem.W.Frag} {σ : L2.St} {H : Hp} {Q : VK} {vs : List Nat} {a tab : Addr} {j s : Nat} {L : List Int}
theorem look_step {xs : List V} (ws : List Nat) (f : Nat → Int) (hxs : xs = (natI ws).map V.int) (h1 : ∀ x, ((wipe σ vs).set j (some x))[s]? = some (some (.ref tab))) (h2 : ∀ x, ((wipe σ vs).set j (some x))[j]? = some (some x)) (hT : SqL K H tab (L.map V.int)) (hL : ∀ w ∈ ws, atI (L.map V.int) (w : Int) = some (.int (f w)))
    (i : Nat) (x y : V) (H' : Hp) (Q' : VK) (hx : xs[i]? = some x) (hy : ((ws.map f).map V.int)[i]? = some y) (sm : Same H H') (k : Q' y H') : tOp (rIxL K) (tVar s) (tVar j) ((wipe σ vs).set j (some x)) H' Q' := by
  subst hxs
  obtain ⟨z, hz, rfl⟩ := get_map hx
  obtain ⟨w, hw, rfl⟩ := natI_get hz
  rw [List.getElem?_map, List.getElem?_map, hw] at hy
  cases hy
  exact ⟨_, h1 _, _, h2 _, _, _, _, _, rfl, rfl, sm.seq hT, hL w (List.mem_of_getElem? hw), k⟩
theorem lc_lookT (ws : List Nat) (f : Nat → Int) {xs : List V} (hxs : xs = (natI ws).map V.int) (hS : SqT K H a xs) (hz : ws.length ≤ 100000) (hw : ∀ x, wipe ((wipe σ vs).set j (some x)) vs = wipe σ vs) (h1 : ∀ x, ((wipe σ vs).set j (some x))[s]? = some (some (.ref tab))) (h2 : ∀ x, ((wipe σ vs).set j (some x))[j]? = some (some x))
    (hT : SqL K H tab (L.map V.int)) (hL : ∀ w ∈ ws, atI (L.map V.int) (w : Int) = some (.int (f w))) (q : ∀ p H', H p = none → Same H H' → H' p = some (.lst ((ws.map f).map V.int)) → Q (.ref p) H') : LcB (Itt K a) (gName j) tYes (tOp (rIxL K) (tVar s) (tVar j)) vs σ Q H :=
  lc_t xs ((ws.map f).map V.int) (by rw [hxs, List.length_map, List.length_map, List.length_map, natI_len]) hS (by rw [hxs, List.length_map, natI_len]; omega) hw (fun i x y H' Q' hx hy sm k => look_step ws f hxs h1 h2 hT hL i x y H' Q' hx hy sm k) q
theorem lc_lookL (ws : List Nat) (f : Nat → Int) {xs : List V} (hxs : xs = (natI ws).map V.int) (hS : SqL K H a xs) (hz : ws.length ≤ 100000) (hw : ∀ x, wipe ((wipe σ vs).set j (some x)) vs = wipe σ vs) (h1 : ∀ x, ((wipe σ vs).set j (some x))[s]? = some (some (.ref tab))) (h2 : ∀ x, ((wipe σ vs).set j (some x))[j]? = some (some x))
    (hT : SqL K H tab (L.map V.int)) (hL : ∀ w ∈ ws, atI (L.map V.int) (w : Int) = some (.int (f w))) (q : ∀ p H', H p = none → Same H H' → H' p = some (.lst ((ws.map f).map V.int)) → Q (.ref p) H') : LcB (Itl K a) (gName j) tYes (tOp (rIxL K) (tVar s) (tVar j)) vs σ Q H :=
  lc_l xs ((ws.map f).map V.int) (by rw [hxs, List.length_map, List.length_map, List.length_map, natI_len]) hS (by rw [hxs, List.length_map, natI_len]; omega) hw (fun i x y H' Q' hx hy sm k => look_step ws f hxs h1 h2 hT hL i x y H' Q' hx hy sm k) q
end
theorem bit_at' {ws : List (Str × Int)} {ks : List Row} {w : Nat} (h : w < ks.length) : atI ((toldL ws ks).map V.int) (w : Int) = some (.int (bit ws ks w)) := by
  rw [bit_get (by rw [toldL_len]; exact h)]
  rfl
theorem dep_at' {ks : List Row} {w : Nat} (h : w < ks.length) : atI ((depthL ks).map V.int) (w : Int) = some (.int (dep ks w)) := by
  rw [bit_get (by rw [show (depthL ks).length = ks.length from runL_len ..]; exact h)]
  rfl
end Dpr

namespace Dpr
open PySem PySem.Spec PyProof.Rows L2
/-- the places of a list whose items are told by a test -/
def selP (xs : List V) (sel : V → Bool) : Nat → List Nat
  | 0 => []
  | n + 1 => match xs[n]? with
    | some x => if sel x = true then selP xs sel n ++ [n] else selP xs sel n
    | none => selP xs sel n
/-- [k for k, x in enumerate(a list) if ..] -/
theorem lc_ef {K : PySem.W.Frag} {σ : L2.St} {H : Hp} {Q : VK} {tt : TT} {te : TE} {vs : List Nat} {a : Addr} {j k : Nat} (xs : List V) (sel : V → Bool) (hS : SqL K H a xs) (hz : xs.length ≤ 1000000) (hw : ∀ x y, wipe (((wipe σ vs).set j (some x)).set k (some y)) vs = wipe σ vs)
    (ht : ∀ (n : Nat) x H' (QB : Bool → Hp → Prop), xs[n]? = some x → Same H H' → QB (sel x) H' → tt (((wipe σ vs).set j (some (.int (n : Int)))).set k (some x)) H' QB)
    (he : ∀ (n : Nat) x H' (Q' : VK), xs[n]? = some x → Same H H' → Q' (.int (n : Int)) H' → te (((wipe σ vs).set j (some (.int (n : Int)))).set k (some x)) H' Q')
    (q : ∀ p H', H p = none → Same H H' → H' p = some (.lst ((natI (selP xs sel xs.length)).map V.int)) → Q (.ref p) H') : LcB (Ite K a) (gTup K 2 (gCons (gName j) (gCons (gName k) gNil))) tt te vs σ Q H := fun D hD => by
  have len : ∀ n, (selP xs sel n).length ≤ n := by
    intro n
    induction n with
    | zero => exact Nat.le_refl _
    | succ n ih =>
      unfold selP
      split
      · split
        · rw [List.length_append, List.length_singleton]; omega
        · omega
      · omega
  refine ⟨fun i m H' => m = xs.length - i ∧ i ≤ xs.length ∧ Same H H' ∧ H' D = some (.lst ((natI (selP xs sel i)).map V.int)), ⟨xs.length, by simp, Nat.zero_le _, same_upd hD, upd_same⟩, ?_⟩
  rintro i m H' ⟨rfl, hi, sm, eD⟩
  have qS := sm.seq hS
  by_cases hlt : i < xs.length
  · refine .inr ⟨⟨xs, xs[i], qS, by simp [hlt]⟩, fun H2 => Same H H2 ∧ H2 D = some (.lst ((natI (selP xs sel (i + 1))).map V.int)), fun H2 p' => ⟨xs.length - (i + 1), by omega, rfl, hlt, p'.1, p'.2⟩, fun x H2 y => ?_⟩
    obtain ⟨T, y, rfl, nT, rfl, hy⟩ := y
    have hyi : xs[i]? = some y := hy xs qS
    have s2 : Same H' (upd H' T (.tup [.int (i : Int), y])) := same_upd nT
    have eD2 := s2 _ _ eD
    refine ⟨T, _, rfl, SqT.of upd_same, rfl, _, _, rfl, _, _, rfl, rfl, hw _ _, ht i y _ _ hyi (sm.trans s2) ?_⟩
    have e1 : selP xs sel (i + 1) = if sel y = true then selP xs sel i ++ [i] else selP xs sel i := by
      show (match xs[i]? with | some x => _ | none => _) = _
      rw [hyi]
    generalize upd H' T (.tup [.int (i : Int), y]) = H3 at *
    cases hsel : sel y with
    | true =>
      rw [hsel, if_pos rfl] at e1
      refine w_itT (he i y H3 _ hyi (sm.trans s2) ⟨_, eD2, ?_, same_mut (sm.trans s2) hD, ?_⟩)
      · rw [List.length_map, natI_len]
        have := len i
        exact Nat.lt_of_lt_of_le (show (selP xs sel i).length < 16777216 by omega) (by rw [sizeLine_eq]; exact Nat.le_refl _)
      · rw [upd_same, nat_snoc, e1]
    | false =>
      rw [hsel, if_neg Bool.false_ne_true] at e1
      exact w_itF ⟨sm.trans s2, by rw [e1]; exact eD2⟩
  · have e : i = xs.length := by omega
    subst e
    exact .inl ⟨⟨xs, qS, Nat.le_refl _⟩, q D H' hD sm eD⟩
end Dpr

namespace Dpr
open PySem PySem.Spec PyProof.Rows L2
/-! dots pressed, the mathematics -/
def pressR (n x y z : Nat) : List Row := [.bin .xor x y, .bin .xor n z, .bin .and x y, .bin .and n z, .bin .or (n + 2) (n + 3)]
def pressC (cols : List (List Nat)) (k n : Nat) (t : List Nat) : List (List Nat) := addC (addC (cols.set k t) k (n + 1)) (k + 1) (n + 4)
inductive PChain (rs : List Row) (cols : List (List Nat)) : List Nat → List Row → List (List Nat) → Prop
  | nil : PChain rs cols [] rs cols
  | snoc {ks : List Nat} {rs1 : List Row} {cols1 : List (List Nat)} {k x y z : Nat} {t : List Nat} (h : PChain rs cols ks rs1 cols1) (hk : cols1[k]? = some (x :: y :: z :: t)) : PChain rs cols (ks ++ [k]) (rs1 ++ pressR rs1.length x y z) (pressC cols1 k rs1.length t)
theorem PChain.trans {rs : List Row} {cols : List (List Nat)} {ks : List Nat} {rs1 : List Row} {cols1 : List (List Nat)} (h : PChain rs cols ks rs1 cols1) {ls : List Nat} {rs2 : List Row} {cols2 : List (List Nat)} (k : PChain rs1 cols1 ls rs2 cols2) : PChain rs cols (ks ++ ls) rs2 cols2 := by
  induction k with
  | nil => rw [List.append_nil]; exact h
  | snoc _ hk ih => rw [← List.append_assoc]; exact ih.snoc hk
def DotsOk (rs : List Row) (cols : List (List Nat)) : Prop := ∀ xs ∈ cols, ∀ w ∈ xs, w < rs.length
theorem pressR_len (n x y z : Nat) : (pressR n x y z).length = 5 := rfl
theorem mem_addC {cols : List (List Nat)} {k w : Nat} {xs : List Nat} (h : xs ∈ addC cols k w) : xs ∈ cols ∨ ∃ ys ∈ cols, xs = ys ++ [w] := by
  unfold addC at h
  cases e : cols[k]? with
  | some ys =>
    rw [e] at h
    rcases List.mem_or_eq_of_mem_set h with z | z
    · exact .inl z
    · exact .inr ⟨ys, List.mem_of_getElem? e, z⟩
  | none =>
    rw [e] at h
    exact .inl h
theorem pressC_len (cols : List (List Nat)) (k n : Nat) (t : List Nat) : (pressC cols k n t).length = cols.length := by
  unfold pressC
  rw [addC_len, addC_len, List.length_set]
theorem dots_press {rs : List Row} {cols : List (List Nat)} (h : DotsOk rs cols) {k x y z : Nat} {t : List Nat} (hk : cols[k]? = some (x :: y :: z :: t)) : DotsOk (rs ++ pressR rs.length x y z) (pressC cols k rs.length t) := by
  have h0 := h _ (List.mem_of_getElem? hk)
  have hl : (rs ++ pressR rs.length x y z).length = rs.length + 5 := by rw [List.length_append]; rfl
  have b0 : ∀ xs ∈ cols.set k t, ∀ w ∈ xs, w < rs.length := fun xs m w hw => by
    rcases List.mem_or_eq_of_mem_set m with q | q
    · exact h xs q w hw
    · rw [q] at hw
      exact h0 w (List.mem_cons_of_mem _ (List.mem_cons_of_mem _ (List.mem_cons_of_mem _ hw)))
  have b1 : ∀ xs ∈ addC (cols.set k t) k (rs.length + 1), ∀ w ∈ xs, w < rs.length + 5 := fun xs m w hw => by
    rcases mem_addC m with q | ⟨ys, q, rfl⟩
    · have := b0 xs q w hw; omega
    · rcases List.mem_append.mp hw with e | e
      · have := b0 ys q w e; omega
      · rw [List.mem_singleton.mp e]; omega
  intro xs m w hw
  rw [hl]
  rcases mem_addC m with q | ⟨ys, q, rfl⟩
  · exact b1 xs q w hw
  · rcases List.mem_append.mp hw with e | e
    · exact b1 ys q w e
    · rw [List.mem_singleton.mp e]; omega
theorem press_rows {N : Str → Prop} {rs : List Row} (ok : RowsOk N rs) {x y z : Nat} (hx : x < rs.length) (hy : y < rs.length) (hz : z < rs.length) : RowsOk N (rs ++ pressR rs.length x y z) := by
  have e : rs ++ pressR rs.length x y z = ((((rs ++ [.bin .xor x y]) ++ [.bin .xor rs.length z]) ++ [.bin .and x y]) ++ [.bin .and rs.length z]) ++ [.bin .or (rs.length + 2) (rs.length + 3)] := by
    simp only [pressR, List.append_assoc, List.cons_append, List.nil_append]
  rw [e]
  refine ((((ok.snoc (show RowOk N _ (.bin .xor x y) from ⟨hx, hy⟩)).snoc (show RowOk N _ (.bin .xor rs.length z) from ⟨?_, ?_⟩)).snoc (show RowOk N _ (.bin .and x y) from ⟨?_, ?_⟩)).snoc (show RowOk N _ (.bin .and rs.length z) from ⟨?_, ?_⟩)).snoc (show RowOk N _ (.bin .or (rs.length + 2) (rs.length + 3)) from ⟨?_, ?_⟩) <;> simp only [List.length_append, List.length_cons, List.length_nil] <;> omega
theorem press_nolat {rs : List Row} {n x y z : Nat} (nl : NoLats rs) : NoLats (rs ++ pressR n x y z) := by
  intro r hr
  rcases List.mem_append.mp hr with q | q
  · exact nl r q
  · simp only [pressR, List.mem_cons, List.not_mem_nil, or_false] at q
    rcases q with rfl | rfl | rfl | rfl | rfl <;> exact True.intro
/-- later rows -/
def Later (ks ks' : List Row) : Prop := ∃ t, ks' = ks ++ t
theorem Later.refl (ks : List Row) : Later ks ks := ⟨[], (List.append_nil ks).symm⟩
theorem Later.trans {a b c : List Row} (h : Later a b) (k : Later b c) : Later a c := by
  obtain ⟨t, rfl⟩ := h
  obtain ⟨u, rfl⟩ := k
  exact ⟨t ++ u, List.append_assoc ..⟩
theorem Later.get {a b : List Row} (h : Later a b) {i : Nat} {r : Row} (e : a[i]? = some r) : b[i]? = some r := by
  obtain ⟨t, rfl⟩ := h
  rw [List.getElem?_append_left (List.getElem?_eq_some_iff.mp e).1]
  exact e
theorem PChain.later {rs : List Row} {cols : List (List Nat)} {ks : List Nat} {rs1 : List Row} {cols1 : List (List Nat)} (h : PChain rs cols ks rs1 cols1) : Later rs rs1 := by
  induction h with
  | nil => exact Later.refl _
  | snoc _ _ ih => exact ih.trans ⟨_, rfl⟩
theorem PChain.len {rs : List Row} {cols : List (List Nat)} {ks : List Nat} {rs1 : List Row} {cols1 : List (List Nat)} (h : PChain rs cols ks rs1 cols1) : rs1.length = rs.length + 5 * ks.length ∧ cols1.length = cols.length := by
  induction h with
  | nil => exact ⟨by simp, rfl⟩
  | snoc _ _ ih => exact ⟨by rw [List.length_append, pressR_len, List.length_append, List.length_singleton, ih.1]; omega, by rw [pressC_len, ih.2]⟩
theorem PChain.ok {N : Str → Prop} {rs : List Row} {cols : List (List Nat)} {ks : List Nat} {rs1 : List Row} {cols1 : List (List Nat)} (h : PChain rs cols ks rs1 cols1) (ok : RowsOk N rs) (nl : NoLats rs) (dk : DotsOk rs cols) : RowsOk N rs1 ∧ NoLats rs1 ∧ DotsOk rs1 cols1 := by
  induction h with
  | nil => exact ⟨ok, nl, dk⟩
  | snoc _ hk ih =>
    have b := ih.2.2 _ (List.mem_of_getElem? hk)
    exact ⟨press_rows ih.1 (b _ (List.mem_cons_self ..)) (b _ (List.mem_cons_of_mem _ (List.mem_cons_self ..))) (b _ (List.mem_cons_of_mem _ (List.mem_cons_of_mem _ (List.mem_cons_self ..)))), press_nolat ih.2.1, dots_press ih.2.2 hk⟩
/-- the bits of the two new dots, in any later rows -/
theorem press_bits {N : Str → Prop} {rs R : List Row} (ok : RowsOk N R) {x y z : Nat} (hx : x < rs.length) (hy : y < rs.length) (hz : z < rs.length) (l : Later (rs ++ pressR rs.length x y z) R) (ws : List (Str × Int)) :
    bit ws R (rs.length + 1) = (bit ws R x + bit ws R y + bit ws R z) % 2 ∧ bit ws R (rs.length + 4) = (bit ws R x + bit ws R y + bit ws R z) / 2 := by
  have g : ∀ (i : Nat) (r : Row), (pressR rs.length x y z)[i]? = some r → R[rs.length + i]? = some r := fun i r e => l.get (by rw [List.getElem?_append_right (by omega), show rs.length + i - rs.length = i by omega]; exact e)
  have g0 : R[rs.length]? = some (.bin .xor x y) := g 0 _ rfl
  have g1 : R[rs.length + 1]? = some (.bin .xor rs.length z) := g 1 _ rfl
  have g2 : R[rs.length + 2]? = some (.bin .and x y) := g 2 _ rfl
  have g3 : R[rs.length + 3]? = some (.bin .and rs.length z) := g 3 _ rfl
  have g4 : R[rs.length + 4]? = some (.bin .or (rs.length + 2) (rs.length + 3)) := g 4 _ rfl
  rw [bit_bin ok g4, bit_bin ok g3, bit_bin ok g2, bit_bin ok g1, bit_bin ok g0]
  rcases bit_01 ok ws x with e1 | e1 <;> rcases bit_01 ok ws y with e2 | e2 <;> rcases bit_01 ok ws z with e3 | e3 <;> rw [e1, e2, e3] <;> exact ⟨rfl, rfl⟩
/-! heights -/
def bump (hs : List Nat) (k : Nat) : List Nat := hs.set k (hs.getD k 0 + 1)
def stepH (hs : List Nat) (k : Nat) : List Nat := bump (hs.set k (hs.getD k 0 - 2)) (k + 1)
theorem lens_get (cols : List (List Nat)) (k : Nat) : (lens cols)[k]? = (cols[k]?).map (·.length) := by unfold lens; rw [List.getElem?_map]
theorem lens_set (cols : List (List Nat)) (k : Nat) (t : List Nat) : lens (cols.set k t) = (lens cols).set k t.length := by unfold lens; rw [List.map_set]
theorem lens_bump (cols : List (List Nat)) (k w : Nat) : lens (addC cols k w) = bump (lens cols) k := by
  unfold addC bump
  cases e : cols[k]? with
  | some xs =>
    show lens (cols.set k (xs ++ [w])) = _
    rw [lens_set, List.length_append, List.length_singleton, List.getD_eq_getElem?_getD, lens_get, e]
    rfl
  | none =>
    show lens cols = _
    rw [List.set_eq_of_length_le (by rw [lens, List.length_map]; exact List.getElem?_eq_none_iff.mp e)]
theorem lens_press {cols : List (List Nat)} {k n x y z : Nat} {t : List Nat} (hk : cols[k]? = some (x :: y :: z :: t)) : lens (pressC cols k n t) = stepH (lens cols) k := by
  have hl : k < (lens cols).length := by unfold lens; rw [List.length_map]; exact (List.getElem?_eq_some_iff.mp hk).1
  have hg : (lens cols).getD k 0 = t.length + 3 := by rw [List.getD_eq_getElem?_getD, lens_get, hk]; rfl
  unfold pressC stepH
  rw [lens_bump, lens_bump, lens_set, hg]
  congr 1
  unfold bump
  rw [List.getD_eq_getElem?_getD, List.getElem?_set, if_pos rfl, if_pos hl, List.set_set]
  rfl
end Dpr

namespace Dpr
open PySem PySem.Spec PyProof.Rows L2
/-! an order -/
def selN (p : Nat → Bool) : Nat → List Nat
  | 0 => []
  | n + 1 => if p n = true then selN p n ++ [n] else selN p n
theorem selN_mem {p : Nat → Bool} {x : Nat} : ∀ {n : Nat}, x ∈ selN p n → x < n ∧ p x = true
  | 0, h => by cases h
  | n + 1, h => by
    unfold selN at h
    split at h
    · rename_i e
      rcases List.mem_append.mp h with q | q
      · have := selN_mem q; exact ⟨by omega, this.2⟩
      · rw [List.mem_singleton.mp q]; exact ⟨by omega, e⟩
    · have := selN_mem h; exact ⟨by omega, this.2⟩
theorem selN_len (p : Nat → Bool) : ∀ n : Nat, (selN p n).length ≤ n
  | 0 => Nat.le_refl _
  | n + 1 => by
    have := selN_len p n
    unfold selN
    split
    · rw [List.length_append, List.length_singleton]; omega
    · omega
theorem selN_nil {p : Nat → Bool} : ∀ {n : Nat}, selN p n = [] → ∀ i, i < n → p i = false
  | 0, _, i, h => by omega
  | n + 1, e, i, h => by
    unfold selN at e
    split at e
    · simp at e
    · rename_i hn
      by_cases c : i = n
      · rw [c]
        cases q : p n with
        | true => exact absurd q hn
        | false => rfl
      · exact selN_nil e i (by omega)
def over2 (hs : List Nat) (i : Nat) : Bool := decide (2 < hs.getD i 0)
def ready (hs : List Nat) : List Nat := selN (over2 hs) hs.length
theorem selP_ready (hs : List Nat) (sel : V → Bool) (hsel : ∀ h : Nat, sel (.int (h : Int)) = decide (2 < h)) : ∀ n : Nat, n ≤ hs.length → selP ((natI hs).map V.int) sel n = selN (over2 hs) n
  | 0, _ => rfl
  | n + 1, h => by
    have hn : n < hs.length := by omega
    have e : ((natI hs).map V.int)[n]? = some (.int ((hs[n] : Nat) : Int)) := by
      rw [natI_map, List.getElem?_map, List.getElem?_eq_getElem hn]
      rfl
    unfold selP selN
    rw [e, selP_ready hs sel hsel n (by omega)]
    show (if sel (.int ((hs[n] : Nat) : Int)) = true then _ else _) = _
    rw [hsel]
    have e2 : over2 hs n = decide (2 < hs[n]) := by
      unfold over2
      rw [List.getD_eq_getElem?_getD, List.getElem?_eq_getElem hn]
      rfl
    rw [e2]
theorem ready_mem {hs : List Nat} {k : Nat} (h : k ∈ ready hs) : k < hs.length ∧ 3 ≤ hs.getD k 0 := by
  have := selN_mem h
  exact ⟨this.1, of_decide_eq_true this.2⟩
def pick (order : List Int) (j : Nat) (rd : List Nat) : Nat := if order.length = 0 then rd.getD 0 0 else rd.getD (order.getD (j % order.length) 0 % (rd.length : Int)).toNat 0
theorem pick_mem (order : List Int) (j : Nat) {rd : List Nat} (h : 0 < rd.length) : pick order j rd ∈ rd := by
  have key : ∀ i, i < rd.length → rd.getD i 0 ∈ rd := fun i hi => by
    rw [List.getD_eq_getElem?_getD, List.getElem?_eq_getElem hi]
    exact List.getElem_mem hi
  unfold pick
  split
  · exact key 0 h
  · refine key _ ?_
    have a := Int.emod_nonneg (order.getD (j % order.length) 0) (show (rd.length : Int) ≠ 0 by omega)
    have b := Int.emod_lt_of_pos (order.getD (j % order.length) 0) (show (0 : Int) < (rd.length : Int) by omega)
    omega
/-- one press after the other, by heights alone -/
def stepO (order : List Int) (s : List Nat × List Nat) : List Nat × List Nat := if (ready s.2).length = 0 then s else (s.1 ++ [pick order s.1.length (ready s.2)], stepH s.2 (pick order s.1.length (ready s.2)))
def itO (order : List Int) (hs : List Nat) : Nat → List Nat × List Nat
  | 0 => ([], hs)
  | n + 1 => stepO order (itO order hs n)
theorem itO_stop (order : List Int) (hs : List Nat) {n : Nat} (h : (ready (itO order hs n).2).length = 0) : ∀ m, itO order hs (n + m) = itO order hs n
  | 0 => rfl
  | m + 1 => by
    show stepO order (itO order hs (n + m)) = _
    rw [itO_stop order hs h m]
    unfold stepO
    rw [if_pos h]
theorem itO_one (order : List Int) (hs : List Nat) {n m : Nat} (h : (ready (itO order hs n).2).length = 0) (k : (ready (itO order hs m).2).length = 0) : itO order hs n = itO order hs m := by
  rcases Nat.le_total n m with q | q
  · obtain ⟨d, rfl⟩ := Nat.exists_eq_add_of_le q
    exact (itO_stop order hs h d).symm
  · obtain ⟨d, rfl⟩ := Nat.exists_eq_add_of_le q
    exact itO_stop order hs k d
theorem sum_set : ∀ (hs : List Nat) (k v : Nat), k < hs.length → (hs.set k v).sum + hs.getD k 0 = hs.sum + v
  | [], k, v, h => by simp at h
  | x :: r, 0, v, _ => by
    show v + r.sum + x = x + r.sum + v
    omega
  | x :: r, k + 1, v, h => by
    have := sum_set r k v (by simpa using h)
    show x + (r.set k v).sum + r.getD k 0 = x + r.sum + v
    omega
theorem sum_bump (hs : List Nat) (k : Nat) : (bump hs k).sum ≤ hs.sum + 1 := by
  unfold bump
  by_cases h : k < hs.length
  · have := sum_set hs k (hs.getD k 0 + 1) h
    omega
  · rw [List.set_eq_of_length_le (by omega)]
    omega
theorem sum_step {hs : List Nat} {k : Nat} (h : k < hs.length) (h3 : 3 ≤ hs.getD k 0) : (stepH hs k).sum + 1 ≤ hs.sum := by
  have a := sum_set hs k (hs.getD k 0 - 2) h
  have b := sum_bump (hs.set k (hs.getD k 0 - 2)) (k + 1)
  unfold stepH
  omega
theorem le_sum : ∀ {hs : List Nat} {x : Nat}, x ∈ hs → x ≤ hs.sum
  | y :: r, x, h => by
    rcases List.mem_cons.mp h with q | q
    · rw [q]
      show y ≤ y + r.sum
      omega
    · have := le_sum q
      show x ≤ y + r.sum
      omega
theorem lens_le {cols : List (List Nat)} {xs : List Nat} (h : xs ∈ cols) : xs.length ≤ (lens cols).sum := le_sum (List.mem_map.mpr ⟨xs, h, rfl⟩)
theorem three_of {cols : List (List Nat)} {k : Nat} (h : k < (lens cols).length) (h3 : 3 ≤ (lens cols).getD k 0) : ∃ x y z t, cols[k]? = some (x :: y :: z :: t) := by
  have hk : k < cols.length := by unfold lens at h; rwa [List.length_map] at h
  have e := List.getElem?_eq_getElem hk
  rw [List.getD_eq_getElem?_getD, lens_get, e] at h3
  generalize cols[k] = xs at e h3
  have h3 : 3 ≤ xs.length := h3
  cases xs with
  | nil => simp at h3
  | cons x u => cases u with
    | nil => simp at h3
    | cons y v => cases v with
      | nil => simp at h3
      | cons z t => exact ⟨x, y, z, t, e⟩
end Dpr

namespace Dpr
open PySem PySem.Spec PyProof.Rows L2
/-- [k for k in range(n) if ..] -/
theorem lc_rf {σ : L2.St} {H : Hp} {Q : VK} {tt : TT} {te : TE} {vs : List Nat} {n j : Nat} (sel : Nat → Bool) (hn : n < 1000000) (hw : ∀ x, wipe ((wipe σ vs).set j (some x)) vs = wipe σ vs)
    (ht : ∀ (i : Nat) H' (QB : Bool → Hp → Prop), i < n → Same H H' → QB (sel i) H' → tt ((wipe σ vs).set j (some (.int (i : Int)))) H' QB)
    (he : ∀ (i : Nat) H' (Q' : VK), i < n → Same H H' → Q' (.int (i : Int)) H' → te ((wipe σ vs).set j (some (.int (i : Int)))) H' Q')
    (q : ∀ p H', H p = none → Same H H' → H' p = some (.lst ((natI (selN sel n)).map V.int)) → Q (.ref p) H') : LcB (Itr 0 n) (gName j) tt te vs σ Q H := fun D hD =>
  lc_range (lo := 0) (n := n) (fun i H' => Same H H' ∧ H' D = some (.lst ((natI (selN sel i)).map V.int))) ⟨same_upd hD, upd_same⟩ (fun i H' hi e => by
    obtain ⟨sm, eD⟩ := e
    have e0 : V.int (0 + (i : Int)) = V.int (i : Int) := by rw [Int.zero_add]
    show wipe ((wipe σ vs).set j (some (V.int (0 + (i : Int))))) vs = wipe σ vs ∧ tt ((wipe σ vs).set j (some (V.int (0 + (i : Int))))) H' (fun b H3 => if b = true then te ((wipe σ vs).set j (some (V.int (0 + (i : Int))))) H3 (fun y H4 => ∃ acc, H4 D = some (.lst acc) ∧ acc.length < sizeLine ∧ (Same H (upd H4 D (.lst (acc ++ [y]))) ∧ (upd H4 D (.lst (acc ++ [y]))) D = some (.lst ((natI (selN sel (i + 1))).map V.int)))) else (Same H H3 ∧ H3 D = some (.lst ((natI (selN sel (i + 1))).map V.int))))
    rw [e0]
    refine ⟨hw _, ht i H' _ hi sm ?_⟩
    have e1 : selN sel (i + 1) = if sel i = true then selN sel i ++ [i] else selN sel i := rfl
    cases hs : sel i with
    | true =>
      rw [hs, if_pos rfl] at e1
      refine w_itT (he i H' _ hi sm ⟨_, eD, ?_, same_mut sm hD, ?_⟩)
      · rw [List.length_map, natI_len]
        have := selN_len sel i
        exact Nat.lt_of_lt_of_le (show (selN sel i).length < 16777216 by omega) (by rw [sizeLine_eq]; exact Nat.le_refl _)
      · rw [upd_same, nat_snoc, e1]
    | false =>
      rw [hs, if_neg Bool.false_ne_true] at e1
      exact w_itF ⟨sm, by rw [e1]; exact eD⟩) fun H' e => q D H' hD e.1 e.2
end Dpr

namespace Dpr
open PySem PySem.Spec PyProof.Rows L2
/-- a comprehension over a list that stands, whose elements are new objects -/
theorem lc_each {K : PySem.W.Frag} {σ : L2.St} {H : Hp} {Q : VK} {te : TE} {vs : List Nat} {a : Addr} {j : Nat} (xs : List V) (R : Nat → V → Hp → Prop) (m1 : ∀ i y G D ys zs, R i y G → G D = some (.lst ys) → R i y (upd G D (.lst zs))) (m2 : ∀ i y G G', R i y G → Same G G' → R i y G') (hS : SqL K H a xs) (hz : xs.length ≤ 1000000) (hw : ∀ x, wipe ((wipe σ vs).set j (some x)) vs = wipe σ vs)
    (he : ∀ (i : Nat) x H' (Q' : VK), xs[i]? = some x → Same H H' → (∀ y H2, Same H' H2 → R i y H2 → Q' y H2) → te ((wipe σ vs).set j (some x)) H' Q')
    (q : ∀ ys p H', H p = none → Same H H' → H' p = some (.lst ys) → ys.length = xs.length → (∀ i y, ys[i]? = some y → R i y H') → Q (.ref p) H') : LcB (Itl K a) (gName j) tYes te vs σ Q H := fun D hD =>
  lc_list (xs := xs) (fun i H' => ∃ ys : List V, ys.length = i ∧ Same H H' ∧ H' D = some (.lst ys) ∧ ∀ k y, ys[k]? = some y → R k y H') ⟨[], rfl, same_upd hD, upd_same, fun k y h => (by cases h)⟩ (fun i H' _ e => by
    obtain ⟨ys, hl, sm, eD, hR⟩ := e
    exact sm.seq hS) (fun i x H' hx e => by
    obtain ⟨ys, hl, sm, eD, hR⟩ := e
    have hi := (List.getElem?_eq_some_iff.mp hx).1
    show wipe ((wipe σ vs).set j (some x)) vs = wipe σ vs ∧ te ((wipe σ vs).set j (some x)) H'
      (fun y H4 => ∃ acc, H4 D = some (.lst acc) ∧ acc.length < sizeLine ∧ ∃ zs : List V, zs.length = i + 1 ∧ Same H (upd H4 D (.lst (acc ++ [y]))) ∧ (upd H4 D (.lst (acc ++ [y]))) D = some (.lst zs) ∧ ∀ k z, zs[k]? = some z → R k z (upd H4 D (.lst (acc ++ [y]))))
    refine ⟨hw _, he i x H' _ hx sm fun y H2 s2 r => ⟨ys, s2 _ _ eD, ?_, ys ++ [y], ?_, same_mut (sm.trans s2) hD, upd_same, fun k z hk => ?_⟩⟩
    · exact Nat.lt_of_lt_of_le (show ys.length < 16777216 by omega) (by rw [sizeLine_eq]; exact Nat.le_refl _)
    · rw [List.length_append, hl]
      rfl
    · refine m1 _ _ _ _ _ _ ?_ (s2 _ _ eD)
      by_cases c : k < ys.length
      · rw [List.getElem?_append_left c] at hk
        exact m2 _ _ _ _ (hR k z hk) s2
      · have hk2 := (List.getElem?_eq_some_iff.mp hk).1
        rw [List.length_append, List.length_singleton] at hk2
        have ek : k = ys.length := by omega
        subst ek
        rw [List.getElem?_append_right (Nat.le_refl _), Nat.sub_self] at hk
        cases hk
        rw [hl]
        exact r) fun H' e => by
    obtain ⟨ys, hl, sm, eD, hR⟩ := e
    exact q ys D H' hD sm eD hl hR
end Dpr

namespace Dpr
open PySem PySem.Spec PyProof.Rows L2
/-- [.. for k, x in enumerate(a list that stands)], whose elements leave the heap -/
theorem lc_e {K : PySem.W.Frag} {σ : L2.St} {H : Hp} {Q : VK} {te : TE} {vs : List Nat} {a : Addr} {j k : Nat} (xs ys : List V) (hlen : ys.length = xs.length) (hS : SqL K H a xs) (hz : xs.length ≤ 1000000) (hw : ∀ x y, wipe (((wipe σ vs).set j (some x)).set k (some y)) vs = wipe σ vs)
    (he : ∀ (n : Nat) x y H' (Q' : VK), xs[n]? = some x → ys[n]? = some y → Same H H' → Q' y H' → te (((wipe σ vs).set j (some (.int (n : Int)))).set k (some x)) H' Q')
    (q : ∀ p H', H p = none → Same H H' → H' p = some (.lst ys) → Q (.ref p) H') : LcB (Ite K a) (gTup K 2 (gCons (gName j) (gCons (gName k) gNil))) tYes te vs σ Q H := fun D hD => by
  refine ⟨fun i m H' => m = xs.length - i ∧ i ≤ xs.length ∧ Same H H' ∧ H' D = some (.lst (ys.take i)), ⟨xs.length, by simp, Nat.zero_le _, same_upd hD, upd_same⟩, ?_⟩
  rintro i m H' ⟨rfl, hi, sm, eD⟩
  have qS := sm.seq hS
  by_cases hlt : i < xs.length
  · refine .inr ⟨⟨xs, xs[i], qS, by simp [hlt]⟩, fun H2 => Same H H2 ∧ H2 D = some (.lst (ys.take (i + 1))), fun H2 p' => ⟨xs.length - (i + 1), by omega, rfl, hlt, p'.1, p'.2⟩, fun x H2 y => ?_⟩
    obtain ⟨T, y, rfl, nT, rfl, hy⟩ := y
    have hyi : xs[i]? = some y := hy xs qS
    have hyy : ys[i]? = some ys[i] := List.getElem?_eq_getElem (by omega)
    have s2 : Same H' (upd H' T (.tup [.int (i : Int), y])) := same_upd nT
    have eD2 := s2 _ _ eD
    refine ⟨T, _, rfl, SqT.of upd_same, rfl, _, _, rfl, _, _, rfl, rfl, hw _ _, ?_⟩
    refine he i y ys[i] _ _ hyi hyy (sm.trans s2) ⟨_, eD2, ?_, same_mut (sm.trans s2) hD, ?_⟩
    · rw [List.length_take]
      exact Nat.lt_of_lt_of_le (show min i ys.length < 16777216 by omega) (by rw [sizeLine_eq]; exact Nat.le_refl _)
    · rw [upd_same, take_snoc hyy]
  · have e : i = xs.length := by omega
    subst e
    rw [List.take_of_length_le (by omega)] at eD
    exact .inl ⟨⟨xs, qS, Nat.le_refl _⟩, q D H' hD sm eD⟩
end Dpr

namespace Dpr
open PySem PySem.Spec PyProof.Rows L2
theorem nat_set (hs : List Nat) (k v : Nat) : ((natI hs).map V.int).set k (.int (v : Int)) = (natI (hs.set k v)).map V.int := by
  rw [natI_map, natI_map, List.map_set]
theorem selN_has {p : Nat → Bool} {i : Nat} : ∀ {n : Nat}, i < n → p i = true → i ∈ selN p n
  | 0, h, _ => by omega
  | n + 1, h, hp => by
    unfold selN
    by_cases c : i = n
    · rw [← c, if_pos hp]
      exact List.mem_append_right _ (List.mem_cons_self ..)
    · have := selN_has (n := n) (by omega) hp
      split
      · exact List.mem_append_left _ this
      · exact this
theorem ready_pos {hs : List Nat} {x : Nat} (h : x ∈ hs) (h2 : 2 < x) : 0 < (ready hs).length := by
  obtain ⟨i, hi, e⟩ := List.getElem_of_mem h
  have : i ∈ ready hs := selN_has hi (by
    unfold over2
    rw [List.getD_eq_getElem?_getD, List.getElem?_eq_getElem hi, e]
    exact decide_eq_true h2)
  exact List.length_pos_of_mem this
theorem ready_zero {hs : List Nat} (h : ∀ x ∈ hs, x ≤ 2) : (ready hs).length = 0 := by
  cases e : ready hs with
  | nil => rfl
  | cons k r =>
    have hm : k ∈ ready hs := by rw [e]; exact List.mem_cons_self ..
    obtain ⟨h1, h3⟩ := ready_mem hm
    have := h hs[k] (List.getElem_mem h1)
    rw [List.getD_eq_getElem?_getD, List.getElem?_eq_getElem h1] at h3
    have h3 : 3 ≤ hs[k] := h3
    omega
theorem over2_at {hs : List Nat} {n : Nat} (h : n < hs.length) : decide ((2 : Int) < ((hs[n] : Nat) : Int)) = over2 hs n := by
  unfold over2
  rw [List.getD_eq_getElem?_getD, List.getElem?_eq_getElem h]
  exact decide_eq_decide.mpr ⟨fun q => by show 2 < hs[n]; omega, fun q => by have q : 2 < hs[n] := q; omega⟩
end Dpr

namespace Dpr
open PySem PySem.Spec PyProof.Rows L2
/-- a comprehension over a range, whose elements are new objects, each told by itself -/
theorem lc_eachR {σ : L2.St} {H : Hp} {Q : VK} {te : TE} {vs : List Nat} {n j : Nat} (R : Nat → Addr → Hp → Prop) (m1 : ∀ i p G D o, R i p G → p ≠ D → R i p (upd G D o)) (m2 : ∀ i y G G', R i y G → Same G G' → R i y G') (m3 : ∀ i p G, R i p G → G p ≠ none) (hn : n < 1000000) (hw : ∀ x, wipe ((wipe σ vs).set j (some x)) vs = wipe σ vs)
    (he : ∀ (i : Nat) H' (Q' : VK), i < n → Same H H' → (∀ p H2, Same H' H2 → H' p = none → R i p H2 → Q' (.ref p) H2) → te ((wipe σ vs).set j (some (.int (i : Int)))) H' Q')
    (q : ∀ (ps : List Addr) p H', H p = none → Same H H' → H' p = some (.lst (ps.map V.ref)) → ps.length = n → (∀ i q, ps[i]? = some q → R i q H' ∧ H q = none) → ps.Nodup → p ∉ ps → Q (.ref p) H') : LcB (Itr 0 n) (gName j) tYes te vs σ Q H := fun D hD =>
  lc_range (lo := 0) (n := n) (fun i H' => ∃ ps : List Addr, ps.length = i ∧ Same H H' ∧ H' D = some (.lst (ps.map V.ref)) ∧ (∀ k q, ps[k]? = some q → R k q H' ∧ H q = none) ∧ ps.Nodup ∧ D ∉ ps) ⟨[], rfl, same_upd hD, upd_same, fun k y h => (by cases h), List.nodup_nil, fun z => (by cases z)⟩ (fun i H' hi e => by
    obtain ⟨ps, hl, sm, eD, hR, nd, dn⟩ := e
    have e0 : V.int (0 + (i : Int)) = V.int (i : Int) := by rw [Int.zero_add]
    show wipe ((wipe σ vs).set j (some (V.int (0 + (i : Int))))) vs = wipe σ vs ∧ te ((wipe σ vs).set j (some (V.int (0 + (i : Int))))) H'
      (fun y H4 => ∃ acc, H4 D = some (.lst acc) ∧ acc.length < sizeLine ∧ ∃ zs : List Addr, zs.length = i + 1 ∧ Same H (upd H4 D (.lst (acc ++ [y]))) ∧ (upd H4 D (.lst (acc ++ [y]))) D = some (.lst (zs.map V.ref)) ∧ (∀ k q, zs[k]? = some q → R k q (upd H4 D (.lst (acc ++ [y]))) ∧ H q = none) ∧ zs.Nodup ∧ D ∉ zs)
    rw [e0]
    refine ⟨hw _, he i H' _ hi sm fun p H2 s2 np r => ⟨ps.map V.ref, s2 _ _ eD, ?_, ps ++ [p], ?_, same_mut (sm.trans s2) hD, by rw [upd_same, List.map_append]; rfl, ?_, ?_, ?_⟩⟩
    · rw [List.length_map]
      exact Nat.lt_of_lt_of_le (show ps.length < 16777216 by omega) (by rw [sizeLine_eq]; exact Nat.le_refl _)
    · rw [List.length_append, hl]
      rfl
    · intro k z hk
      have pD : p ≠ D := fun z => by rw [z, eD] at np; cases np
      by_cases c : k < ps.length
      · rw [List.getElem?_append_left c] at hk
        obtain ⟨h1, h2⟩ := hR k z hk
        have zD : z ≠ D := fun w => dn (by rw [← w]; exact List.mem_of_getElem? hk)
        exact ⟨m1 _ _ _ _ _ (m2 _ _ _ _ h1 s2) zD, h2⟩
      · have hk2 := (List.getElem?_eq_some_iff.mp hk).1
        rw [List.length_append, List.length_singleton] at hk2
        have ek : k = ps.length := by omega
        subst ek
        rw [List.getElem?_append_right (Nat.le_refl _), Nat.sub_self] at hk
        cases hk
        exact ⟨by rw [hl]; exact m1 _ _ _ _ _ r pD, sm.free np⟩
    · refine List.nodup_append.mpr ⟨nd, List.nodup_cons.mpr ⟨(fun z => by cases z), List.nodup_nil⟩, fun x hx y hy e => ?_⟩
      rw [List.mem_singleton.mp hy] at e
      subst e
      obtain ⟨k, hk⟩ := List.mem_iff_getElem?.mp hx
      exact m3 _ _ _ (hR k _ hk).1 np
    · intro z
      rcases List.mem_append.mp z with z | z
      · exact dn z
      · rw [← List.mem_singleton.mp z, eD] at np
        cases np) fun H' e => by
    obtain ⟨ps, hl, sm, eD, hR, nd, dn⟩ := e
    exact q ps D H' hD sm eD hl hR nd dn
/-- [x for x in a list if ..] -/
theorem lc_lf {K : PySem.W.Frag} {σ : L2.St} {H : Hp} {Q : VK} {tt : TT} {te : TE} {vs : List Nat} {a : Addr} {j : Nat} (xs : List V) (sel : Nat → Bool) (hS : SqL K H a xs) (hz : xs.length ≤ 1000000) (hw : ∀ x, wipe ((wipe σ vs).set j (some x)) vs = wipe σ vs)
    (ht : ∀ (n : Nat) x H' (QB : Bool → Hp → Prop), xs[n]? = some x → Same H H' → QB (sel n) H' → tt ((wipe σ vs).set j (some x)) H' QB)
    (he : ∀ (n : Nat) x H' (Q' : VK), xs[n]? = some x → Same H H' → Q' x H' → te ((wipe σ vs).set j (some x)) H' Q')
    (q : ∀ p ys H', H p = none → Same H H' → H' p = some (.lst ys) → ys.length = (selN sel xs.length).length → Q (.ref p) H') : LcB (Itl K a) (gName j) tt te vs σ Q H := fun D hD =>
  lc_list (xs := xs) (fun i H' => ∃ ys : List V, Same H H' ∧ H' D = some (.lst ys) ∧ ys.length = (selN sel i).length) ⟨[], same_upd hD, upd_same, rfl⟩ (fun i H' _ e => by
    obtain ⟨ys, sm, _⟩ := e
    exact sm.seq hS) (fun i x H' hx e => by
    obtain ⟨ys, sm, eD, hl⟩ := e
    have hi := (List.getElem?_eq_some_iff.mp hx).1
    show wipe ((wipe σ vs).set j (some x)) vs = wipe σ vs ∧ tt ((wipe σ vs).set j (some x)) H' (fun b H3 => if b = true then te ((wipe σ vs).set j (some x)) H3 (fun y H4 => ∃ acc, H4 D = some (.lst acc) ∧ acc.length < sizeLine ∧ ∃ zs : List V, Same H (upd H4 D (.lst (acc ++ [y]))) ∧ (upd H4 D (.lst (acc ++ [y]))) D = some (.lst zs) ∧ zs.length = (selN sel (i + 1)).length) else ∃ zs : List V, Same H H3 ∧ H3 D = some (.lst zs) ∧ zs.length = (selN sel (i + 1)).length)
    refine ⟨hw _, ht i x H' _ hx sm ?_⟩
    have e1 : selN sel (i + 1) = if sel i = true then selN sel i ++ [i] else selN sel i := rfl
    cases hs : sel i with
    | true =>
      rw [hs, if_pos rfl] at e1
      refine w_itT (he i x H' _ hx sm ⟨_, eD, ?_, _, same_mut sm hD, upd_same, ?_⟩)
      · rw [hl]
        have := selN_len sel i
        exact Nat.lt_of_lt_of_le (show (selN sel i).length < 16777216 by omega) (by rw [sizeLine_eq]; exact Nat.le_refl _)
      · rw [e1, List.length_append, List.length_append, hl]
        rfl
    | false =>
      rw [hs, if_neg Bool.false_ne_true] at e1
      exact w_itF ⟨ys, sm, eD, by rw [e1]; exact hl⟩) fun H' e => by
    obtain ⟨ys, sm, eD, hl⟩ := e
    exact q D ys H' hD sm eD hl
end Dpr

namespace Dpr
open PySem PySem.Spec PyProof.Rows L2
/-! a caught error that is kept behind its suite -/
def Exh (cls : Value) (d : Option Addr) (a : Addr) : HO := .ext fun h => ∃ (o : Obj) (fs : Array Value), h.get? a = some o ∧ Zc cls d o ∧ o.data = .fields fs
theorem exh_ok {P : Program} {w : World} {H : Hp} {h : Heap} {a : Addr} {cls : Value} {d : Option Addr} {o : Obj} {fs : Array Value} (g : h.get? a = some o) (z : Zc cls d o) (f : o.data = .fields fs) : ObjOk P w H h a (Exh cls d a) :=
  ⟨⟨o, fs, g, z, f⟩, ⟨o, g⟩, fun _ _ ⟨o', f', g', z'⟩ k => ⟨o', f', k o' g', z'⟩⟩
section
variable {X : Cx} {pins : List (Addr × Obj)} {σ : L2.St} {H : Hp} {s : Shared}
/-- an object that stands, new since the def's begin, is tracked -/
theorem inv_track {a : Addr} {φ : Heap → Prop} (I : Inv X pins σ H s) (n0 : X.s_0.heap.get? a = none) (na : H a = none) (nl : a ≠ X.env.locals) (nc : ∀ x c, X.env.cells.lookup x = some c → c ≠ a) (np : ∀ p ∈ X.pn ++ pins, p.1 ≠ a)
    (ob : ObjOk X.prog X.w (upd H a (.ext φ)) s.heap a (.ext φ)) : Inv X pins σ (upd H a (.ext φ)) s := by
  have old : ∀ {b : Addr} {u : HO}, H b = some u → upd H a (.ext φ) b = some u := fun {b u} e => by rw [upd_ne (ne_of_none e na)]; exact e
  have new0 : ∀ {b : Addr} {u : Obj}, X.s_0.heap.get? b = some u → b ≠ a := fun {b u} e z => by rw [z, n0] at e; cases e
  have gone : ∀ {b : Addr}, b ≠ a → H b = none → upd H a (.ext φ) b = none := fun {b} ne e => by rw [upd_ne ne]; exact e
  refine ⟨I.ok, I.os, I.bare, ⟨I.base.keep, I.base.slot, fun b u e n hx => gone (new0 e) (I.base.free b u e n hx), I.base.there, fun b xs e => old (I.base.tups b xs e), fun b u v e => old (I.base.frzs b u v e), fun b ps e => ?_⟩, I.loc, I.cell, gone nl.symm I.free, fun x c e => gone (nc x c e) (I.freeC x c e), fun p hp => ?_, fun b u e => ?_, I.len⟩
  · obtain ⟨m, q⟩ := I.base.tbls b ps e
    exact ⟨m, old q⟩
  · have q := I.pin p hp
    exact ⟨q.1, gone (np p hp) q.2.1, q.2.2⟩
  · by_cases c : b = a
    · subst c
      rw [upd_same] at e
      cases e
      exact ob
    · rw [upd_ne c] at e
      exact (I.hok b u e).stay (fun _ _ _ q => q) (fun _ q => old q) fun _ _ q => old q
end
/-- the clauses: the class asked, the suite's reading -/
abbrev Clss := List (Value × (Addr → Value → Option Addr → TS))
def keepE (D : Ends) (i : Nat) (a : Addr) (cls : Value) (d : Option Addr) : Ends where
  nx := fun σ H => H a = none → D.nx (σ.set i none) (upd H a (Exh cls d a))
  rt := D.rt
  bk := fun σ H => D.bk (σ.set i none) H
  ct := fun σ H => D.ct (σ.set i none) H
def wNamed (K : PySem.W.Frag) (Wout : WX) (D : Ends) (i : Nat) : Clss → WX
  | [] => Wout
  | q :: r => fun cls d σ H => ∃ b : Bool, PySem.W.exmOne K cls q.1 = some b ∧ (b = true → ∀ a : Addr, H a = none → q.2 a cls d (keepE D i a cls d) (σ.set i (some (.ref a))) H) ∧ (b = false → wNamed K Wout D i r cls d σ H)
inductive Clauses (X : Cx) (n : Str) : List ExceptHandler → Clss → Prop
  | nil : Clauses X n [] []
  | cons {x : Str} {c : Value} {ts : Addr → Value → Option Addr → TS} {b₀ : Stmt} {rest : List Stmt} {p1 p2 : Pos} {more : List ExceptHandler} {l : Clss} (hx : Names X x c)
      (run : ∀ (a : Addr) (o : Obj) (cls : Value) (d : Option Addr) (pn : List (Addr × Obj)), Zc cls d o → (∃ fs, o.data = .fields fs) → PSs (X.suite a ((a, o) :: pn)) (b₀ :: rest) (ts a cls d)) (tl : Clauses X n more l) :
      Clauses X n (.ExceptHandler (some (.Name x p1)) (some n) (b₀ :: rest) p2 :: more) ((c, ts) :: l)
section
variable {X : Cx} {n : Str} {i : Nat} {body : List Stmt} {h0 : ExceptHandler} {more : List ExceptHandler} {l : Clss} {pos : Pos} {tb : WX → TS} {Wout : WX}
theorem ps_try_named (st : X.stack = X.env :: X.outer) (fr : X.env.frame = some X.env.locals) (noex : X.ex = []) (nodup : X.N.Nodup) (at_i : X.N[i]? = some n) (loc : X.env.kindOf n = some .local) (tk : Takes X Wout)
    (run : ∀ (W : WX) (pn : List (Addr × Obj)) (xe : Value → Shared → Prop), Takes (X.tr pn xe) W → PassesOwn (model X.prog X.w) X.A X.env xe → PSs (X.tr pn xe) body (tb W))
    (hh : Clauses X n (h0 :: more) l) : PS X (.Try body (h0 :: more) [] [] pos) (fun D σ H => tb (wNamed X.K Wout D i l) D σ H) := by
  refine ⟨fun pins s σ H D I0 read => ?_⟩
  have okX := I0.ok
  have frs2 : X.A.frames = some (X.env :: X.outer) := okX.frames.trans (by rw [st])
  apply wpAny_Try_except
  refine wpAny_mono ((run (wNamed X.K Wout D i l) (X.pn ++ pins) (fun e t1 => wpAny (model X.prog X.w) X.A (noteFrame e X.env)
      (fun _ t2 => wpAny (model X.prog X.w) X.A (setFlight e none)
        (fun _ t3 => wpAny (model X.prog X.w) X.A (handleBy e X.env (h0 :: more)) (SP X pins D) X.xe t3) X.xe t2) X.xe t1)
      (fun u t caught => ?caught) PassesOwn.looking).run [] s σ H D (I0.toTry _) read) (fun f t through => ?through) (fun _ _ q => q)
  case through =>
    cases f <;> first
      | (obtain ⟨σ1, H1, I1, q1⟩ := through; exact wpAny_execs_nil ⟨σ1, H1, I1.ofTry okX, q1⟩)
      | (obtain ⟨σ1, H1, I1, q1⟩ := through; exact ⟨σ1, H1, I1.ofTry okX, q1⟩)
      | (obtain ⟨v1, σ1, H1, I1, r1, q1⟩ := through; exact ⟨v1, σ1, H1, I1.ofTry okX, r1, q1⟩)
  case caught =>
    obtain ⟨a, B, t0, pins1, σ1, H1, cls, d, rfl, I1', ground, up1, sky1, na, os1, bare1, wish⟩ := caught
    have I1 : Inv X pins σ1 H1 t0 := I1'.ofTry okX
    have sky2 : Sky B (X.env :: X.outer) a (Zc cls d) X.env.locals t.heap := st ▸ sky1
    show wpAny (model X.prog X.w) X.A (noteFrame (.ref a) X.env) _ _ _
    refine Sky.land Zc.steady frs2 fr sky2 fun g3 fly3 up3 => ?_
    have I3 : Inv X pins σ1 H1 { t with heap := g3 } := I1.landed ground fly3.1 (up1.trans up3) os1 bare1
    obtain ⟨o3, fs3, get3, z3, dat3⟩ := fly3.there
    have noFrame : a ∉ frs (X.env :: X.outer) := fun m => by
      obtain ⟨_, o', g', nf⟩ := fly3.2.2.1.mem m
      cases get3.symm.trans g'
      exact nf _ dat3
    have nl : a ≠ X.env.locals := fun z => noFrame (List.mem_filterMap.mpr ⟨X.env, List.mem_cons_self, fr.trans (congrArg some z.symm)⟩)
    have nfs : a ∉ X.fs := fun m => by
      obtain ⟨e1, m1, q1⟩ := List.mem_filterMap.mp m
      exact noFrame (List.mem_filterMap.mpr ⟨e1, List.mem_cons_of_mem _ m1, q1⟩)
    have inGround : ∀ b o, t0.heap.get? b = some o → b ∉ frs (X.env :: X.outer) → b ≠ a := fun b o e nb z => by
      have := ground b o e (by rw [show (X.tr (X.pn ++ pins) _).stack = X.env :: X.outer from st]; exact nb)
      rw [z, fly3.2.1] at this
      cases this
    have begin0 : X.s_0.heap.get? a = none := by
      cases e : X.s_0.heap.get? a with
      | none => rfl
      | some o =>
        obtain ⟨o', e'⟩ := I1.base.there a o e (by rw [noex]; exact List.not_mem_nil)
        exact absurd rfl (inGround a o' e' noFrame)
    have apart : ∀ p ∈ X.pn ++ pins, p.1 ≠ a := fun p hp => by
      have q := I1.pin p hp
      refine inGround p.1 p.2 q.1 fun m => ?_
      obtain ⟨e1, m1, q1⟩ := List.mem_filterMap.mp m
      rcases List.mem_cons.mp m1 with z | z
      · rw [z, fr] at q1
        exact q.2.2.1 (Option.some.inj q1).symm
      · exact q.2.2.2.1 (List.mem_filterMap.mpr ⟨e1, z, q1⟩)
    have S3 := I3.suite get3 dat3 na nl nfs
    have turn : ∀ {hs' : List ExceptHandler} {l' : Clss}, Clauses X n hs' l' → wNamed X.K Wout D i l' cls d σ1 H1 → wpAny (model X.prog X.w) X.A (handleBy (.ref a) X.env hs') (SP X pins D) X.xe { t with heap := g3 } := by
      intro hs' l' hc
      induction hc with
      | nil =>
        intro w1
        apply wpAny_handleBy_nil
        obtain ⟨_, _, _, o1, fs1, T1, _, _, g1, z1, d1, f1, _⟩ := id fly3
        unfold PySem.passOn
        refine wpAny_bind (wpAny_field g1 d1 f1 ?_)
        rw [if_neg (show ¬ ((Value.ref T1 == Value.none) = true) by simp)]
        have on : wpAny (model X.prog X.w) X.A (setFlight (.ref a) X.env.frame) (fun _ t4 => wpAny (model X.prog X.w) X.A (throw (.ref a) : Sem Flow) (SP X pins D) X.xe t4) X.xe { t with heap := g3 } := by
          rw [fr]
          exact HandSPX.setFlight_upZ fly3 fun g4 held up4 => wpAny_throw (tk _ _ ⟨a, B, t0, pins, σ1, H1, cls, d, rfl, I1, ground, (up1.trans up3).trans up4, .inr (.inr (by rw [st]; exact held)), na, os1, bare1, w1⟩)
        first
          | exact wpAny_bind on
          | exact wpAny_bind (wpAny_pure (wpAny_bind on))
      | @cons x c ts b₀ rest p1 p2 more2 l2 hx runS tl ih =>
        intro w1
        obtain ⟨b, asked, yes, no⟩ := w1
        refine wpAny_handleBy_cons (codeAny_handlers_test ?_) (by intro z; cases z)
        have cl3 : PySem.W.Looks (model X.prog X.w) g3 (typeOf (.ref a)) cls := fun _ _ _ _ k q => wpAny_typeOf_ref (k _ _ get3) (by rw [z3.1]; exact q)
        have tells := PySem.W.exm_one (M := model X.prog X.w) I3.kIn cl3 asked
        have named : ∀ {R : Value → Shared → Prop} {E : Value → Shared → Prop}, R c { t with heap := g3 } → wpAny (model X.prog X.w) (X.A.mark (some (.ref a))) (eval (.Name x p1) X.env) R E { t with heap := g3 } := fun {R E} q => by
          obtain ⟨hg, hdb, known | ⟨hm, hv, hnn⟩⟩ := hx
          · exact ld_glob (X := X.suite a ((a, o3) :: (X.pn ++ pins))) S3 hg known q hdb
          · exact ld_blt (X := X.suite a ((a, o3) :: (X.pn ++ pins))) S3 hg hm hv q hnn hdb
        refine named (tells.here ?_)
        cases b with
        | false =>
          show wpAny _ X.A (handleBy (.ref a) X.env more2) _ _ _
          exact ih (no rfl)
        | true =>
          apply codeAny_handlers_suite_as
          refine HandSPX.lands_againZ fly3 fun g4 fly4 up4 => ?_
          have I4 : Inv X pins σ1 H1 { t with heap := g4 } := I1.landed ground fly4.1 ((up1.trans up3).trans up4) os1 bare1
          obtain ⟨o4, fs4, get4, z4, dat4⟩ := fly4.there
          refine store_ok (X := X.suite a ((a, o4) :: (X.pn ++ pins))) (v := .ref a) (I4.suite get4 dat4 na nl nfs) nodup at_i (.inl loc) rfl (fun t5 S5 => ?_) (.inr loc)
          refine wpAny_mono ((runS a o4 cls d (X.pn ++ pins) z4 ⟨_, dat4⟩).run [] t5 _ H1 _ S5 (yes rfl a na)) (fun f t6 done => ?_) (fun _ _ z => z.elim)
          have behind : ∀ {σ6 : L2.St} {H6 : Hp} {R : Shared → Prop}, Inv X pins σ6 H6 t6 → (∀ t7, Inv X pins (σ6.set i none) H6 t7 → R t7) → wpAny (model X.prog X.w) X.A (do bindName X.env n .none; unbindBehindTheSuite X.env n p2) (fun _ t7 => R t7) X.xe t6 := fun {σ6 H6 R} J6 k => gone_ok J6 nodup at_i loc k
          cases f with
          | next =>
            obtain ⟨σ6, H6, S6, q6⟩ := done
            have pin6 := S6.pin (a, o4) (List.mem_append_left _ List.mem_cons_self)
            have J6 := inv_track (S6.unsuite okX) begin0 pin6.2.1 nl (fun x c e z => by
              obtain ⟨v, o, ho, hd⟩ := S6.cell x c e
              rw [z, pin6.1] at ho
              cases ho
              exact pin6.2.2.2.2 _ hd) apart (exh_ok pin6.1 z4 dat4)
            exact behind J6 fun t7 J7 => ⟨_, _, J7, q6 pin6.2.1⟩
          | brk =>
            obtain ⟨σ6, H6, S6, q6⟩ := done
            exact behind (S6.unsuite okX) fun t7 J7 => ⟨_, _, J7, q6⟩
          | cont =>
            obtain ⟨σ6, H6, S6, q6⟩ := done
            exact behind (S6.unsuite okX) fun t7 J7 => ⟨_, _, J7, q6⟩
          | ret u =>
            obtain ⟨v6, σ6, H6, S6, r6, q6⟩ := done
            exact behind (S6.unsuite okX) fun t7 J7 => ⟨_, _, _, J7, r6, q6⟩
    exact turn hh wish
end
/-! isinstance of such a one -/
def rIsx (K : PySem.W.Frag) : List V → Hp → VK → Prop := fun xs H Q => ∃ (a D : Addr) (c : V) (u : Value) (b : Bool), xs = [.ref a, c] ∧ H a = some (Exh (.ref D) none a) ∧ ExcC K D ∧ ClsV c u ∧ PySem.W.kitOne K (.ref D) u = some b ∧ Q (.bl b) H
def rIsxT (K : PySem.W.Frag) : List V → Hp → VK → Prop := fun xs H Q => ∃ (a D tp : Addr) (cs : List V) (us : List Value) (b : Bool), xs = [.ref a, .ref tp] ∧ H a = some (Exh (.ref D) none a) ∧ ExcC K D ∧ H tp = some (.tup cs) ∧ Paired ClsV cs us ∧ PySem.W.kitAny K (.ref D) us = some b ∧ Q (.bl b) H
theorem exh_inst {X : Cx} {pins : List (Addr × Obj)} {σ : L2.St} {H : Hp} {s : Shared} {a D : Addr} (I : Inv X pins σ H s) (e : H a = some (Exh (.ref D) none a)) : ∃ o, PySem.W.InstAt s.heap a o D none := by
  obtain ⟨⟨o, fs, g, ⟨z1, z2⟩, f⟩, _⟩ := I.hok a _ e
  refine ⟨o, ?_⟩
  obtain ⟨oc, od, oda, osl⟩ := o
  dsimp only at z1 z2 f
  subst z1 z2 f
  exact ⟨g, rfl, rfl, trivial⟩
theorem c_isx {X : Cx} (K : PySem.W.Frag) (eK : X.K = K := by rfl) : CallR X (.builtin "isinstance") (rIsx K) := by
  subst eK
  intro pins s σ H xs us Q I r q
  obtain ⟨a, D, c, u, b, rfl, e, C, hc, k, q⟩ := q
  obtain ⟨u1, u2, rfl, r1, r2⟩ := vals2 r
  cases (show u1 = Value.ref a from r1)
  obtain rfl := hc.eq r2
  obtain ⟨o, J⟩ := exh_inst I e
  exact PySem.W.kia_one (PySem.W.handS_kitx_exc C.hg C.hk C.hs C.hd C.ha C.hn C.ht C.hm) I.kIn J k (fun z => nomatch z) fun tk => ⟨.bl b, H, I.tok tk, rfl, q⟩
theorem c_isxT {X : Cx} (K : PySem.W.Frag) (eK : X.K = K := by rfl) : CallR X (.builtin "isinstance") (rIsxT K) := by
  subst eK
  intro pins s σ H xs us Q I r q
  obtain ⟨a, D, tp, cs, ws, b, rfl, e, C, hT, hc, k, q⟩ := q
  obtain ⟨u1, u2, rfl, r1, r2⟩ := vals2 r
  cases (show u1 = Value.ref a from r1)
  cases (show u2 = Value.ref tp from r2)
  obtain ⟨o, J⟩ := exh_inst I e
  obtain ⟨_, its, rv, oT, g1, g2, m, g3⟩ := (show ObjOk X.prog X.w H s.heap tp (.tup cs) from I.hok tp _ hT)
  obtain rfl := ClsV.all hc rv
  obtain ⟨oc, od, dt, sl⟩ := oT
  dsimp only at g2 g3
  subst g2 g3
  exact PySem.W.kia_tup (PySem.W.handS_kitx_exc C.hg C.hk C.hs C.hd C.ha C.hn C.ht C.hm) I.kIn J g1 k (fun z => nomatch z) fun tk => ⟨.bl b, H, I.tok tk, rfl, q⟩
/-! o.m(e, ..) within a try -/
def tMethS (C : Addr) (m : Str) (sp : Sp) (E : L2.St → XK) (ta : TE) (t : TA) : TE := fun σ H Q => ta σ H fun x H1 => ∃ (a dx : Addr) (fs : List (Str × V)), x = .ref a ∧ H1 a = some (.ins C dx fs) ∧ fs.lookup m = none ∧ t σ H1 fun vs H2 => sp (x :: vs) H2 Q (E σ)
section
variable {X : Cx} {CX : CXT} {k : Nat} {f C : Addr} {fd : FuncData} {ps : List Str} {sp : Sp} {E : L2.St → XK} {m : Str} {pos apos : Pos} {e o : Expr} {es : List Expr} {ta : TE} {t : TA}
theorem pe_methS {pl : Sem Bool} (he : PE X o ta) (c : Cls X.K C) (hm : Meth X.K C m f) (F : FnOk X.prog X.w X.K X.mg X.base CX k f fd ps sp) (hr : Room k X.A) (hb : Binds X.K fd ps []) (hx : ∀ σ, PassesAt CX X σ (E σ)) (ha : PA X (e :: es) t)
    (one : starEach (e :: es) X.env = (false, eval e X.env) :: starEach es X.env := by rfl) (more : (backTo pos (starEach es X.env)).any (·.1) = false := by rfl)
    (tree : eval (.Call (.Attribute o m apos) (e :: es) [] pos) X.env = (do
      let ov ← eval o X.env; standAt apos.atName; let (f, first) ← holding [ov] (getMethod ov m pl)
      callWith pos f first (backTo pos (starEach (e :: es) X.env)) (backToKw pos (keywordEach [] X.env))) := by rfl) : PE X (.Call (.Attribute o m apos) (e :: es) [] pos) (tMethS C m sp E ta t) := by
  refine ⟨fun pins s σ H Q I q0 => ?_⟩
  refine PySem.W.methodCall_KW (pl := pl) (thn (he.run pins s σ H _ I q0) fun u t1 hu => ?_) tree
  obtain ⟨x, H1, I1, rx, a, dx, fs, rfl, ea, nl, q1⟩ := hu
  cases (show u = Value.ref a from rx)
  refine getmeth_ok I1 ea c hm nl (PySem.W.callWith_K (first := [.ref a]) (h₀ := X.base) I.ok.mod.kin hm.kp ?_ one more)
  refine thn (ha.run pos pins t1 σ H1 _ I1 q1) fun us t2 hus => ?_
  obtain ⟨vs, H2, I2, r2, q2⟩ := hus
  exact ⟨I2.kIn, run_fnS (us := .ref a :: us) (vs := .ref a :: vs) F hr hb (hx σ) I2 (.cons rfl r2) q2⟩
end
def MethSB (C : Addr) (m : Str) (sp : Sp) (E : L2.St → XK) (t : TA) (σ : L2.St) (Q : VK) (x : V) (H1 : Hp) : Prop := ∃ (a dx : Addr) (fs : List (Str × V)), x = .ref a ∧ H1 a = some (.ins C dx fs) ∧ fs.lookup m = none ∧ t σ H1 fun vs H2 => sp (x :: vs) H2 Q (E σ)
section
variable {K : PySem.W.Frag} {D : Ends} {σ : L2.St} {H : Hp} {Q : VK} {ta : TE} {t : TA} {C : Addr} {m : Str} {sp : Sp} {E : L2.St → XK} {cls c : Value} {d : Option Addr} {i : Nat} {Wout : WX}
theorem w_methS (h : ta σ H (MethSB C m sp E t σ Q)) : tMethS C m sp E ta t σ H Q := h
theorem w_MethSB {a dx : Addr} {fs : List (Str × V)} (h : H a = some (.ins C dx fs)) (e : fs.lookup m = none) (q : t σ H fun vs H2 => sp (.ref a :: vs) H2 Q (E σ)) : MethSB C m sp E t σ Q (.ref a) H := ⟨a, dx, fs, rfl, h, e, q⟩
theorem w_callS (h : t σ H fun vs H1 => sp vs H1 Q (E σ)) : tCallS sp E t σ H Q := h
theorem w_hit {ts : Addr → Value → Option Addr → TS} {r : Clss} (k : PySem.W.exmOne K cls c = some true) (h : ∀ a : Addr, H a = none → ts a cls d (keepE D i a cls d) (σ.set i (some (.ref a))) H) : wNamed K Wout D i ((c, ts) :: r) cls d σ H := ⟨true, k, (fun _ => h), (fun z => absurd z.symm Bool.false_ne_true)⟩
theorem w_miss {ts : Addr → Value → Option Addr → TS} {r : Clss} (k : PySem.W.exmOne K cls c = some false) (h : wNamed K Wout D i r cls d σ H) : wNamed K Wout D i ((c, ts) :: r) cls d σ H := ⟨false, k, (fun z => absurd z Bool.false_ne_true), fun _ => h⟩
theorem w_keep {a : Addr} (h : ∀ H', Same H H' → H' a = some (Exh cls d a) → D.nx (σ.set i none) H') : (keepE D i a cls d).nx σ H := fun na => h _ (same_upd na) upd_same
theorem w_isx {a A : Addr} {x : V} {u : Value} {b : Bool} (e : H a = some (Exh (.ref A) none a)) (C : ExcC K A) (hc : ClsV x u) (k : PySem.W.kitOne K (.ref A) u = some b) (q : Q (.bl b) H) : rIsx K [.ref a, x] H Q := ⟨a, A, x, u, b, rfl, e, C, hc, k, q⟩
theorem kit_none {A : Addr} : ∀ {cs : List Addr}, (∀ c ∈ cs, PySem.W.kitOne K (.ref A) (.ref c) = some false) → PySem.W.kitAny K (.ref A) (cs.map Value.ref) = some false
  | [], _ => rfl
  | c :: r, h => kitAny_cons (h c (List.mem_cons_self ..)) (fun _ => kit_none fun x m => h x (List.mem_cons_of_mem _ m)) fun z => by cases z
theorem cls_refs : ∀ cs : List Addr, Paired ClsV (cs.map V.ref) (cs.map Value.ref)
  | [] => .nil
  | c :: r => .cons (.own c) (cls_refs r)
theorem w_isxT0 {a A tp : Addr} {cs : List Addr} (e : H a = some (Exh (.ref A) none a)) (C : ExcC K A) (hT : H tp = some (.tup (cs.map V.ref))) (k : ∀ c ∈ cs, PySem.W.kitOne K (.ref A) (.ref c) = some false) (q : Q (.bl false) H) : rIsxT K [.ref a, .ref tp] H Q :=
  ⟨a, A, tp, _, _, false, rfl, e, C, hT, cls_refs cs, kit_none k, q⟩
end
theorem kit_sub {K : PySem.W.Frag} {A B : Addr} {b : Bool} (hd : PySem.W.hasDictIn K B = true) (ht : PySem.W.typeIn K (.ref B) = some (.type "type")) (self : PySem.W.subIn K (.ref A) (.ref A) = some true) (hs : PySem.W.subIn K (.ref A) (.ref B) = some b) : PySem.W.kitOne K (.ref A) (.ref B) = some b := by
  unfold PySem.W.kitOne
  by_cases e : A = B
  · subst e
    rw [if_pos (beq_self_eq_true _), ← self, hs]
  · have ne : ¬ (Value.ref A == Value.ref B) = true := fun z => e (Value.ref.inj (eq_of_beq z))
    rw [if_neg ne]
    obtain ⟨cd, hc, _⟩ := PySem.W.any_some hd
    have ok : ((PySem.W.clsIn K B).isSome && PySem.W.typeIn K (.ref B) == some (.type "type")) = true := by rw [hc, ht] <;> rfl
    unfold PySem.W.kitCls
    dsimp only
    rw [if_pos ok]
    exact hs
theorem kit_ve {K : PySem.W.Frag} {A : Addr} {b : Bool} (hs : PySem.W.subIn K (.ref A) (.type "ValueError") = some b) : PySem.W.kitOne K (.ref A) (.type "ValueError") = some b := by
  unfold PySem.W.kitOne
  rw [if_neg (by intro z; cases eq_of_beq z)]
  unfold PySem.W.kitCls
  dsimp only
  rw [if_pos (by decide +kernel)]
  exact hs
end Dpr

namespace Dpr
open PySem PySem.Spec PyProof.Rows L2
def topS (i : Nat) : Stmt := PySem.Challenge.pw_dotpress_k21_three_dots_pressed.main.body.getD i (.Pass ⟨0, 0, 0, 0⟩)
abbrev s_Heap__init : Stmt := inClass (topS 11) 0
theorem sc_Heap__init : FnScope ["self", "many", "k"] ["self", "many"] (defScope s_Heap__init) := ⟨rfl, rfl, rfl, by decide +kernel, rfl, by decide +kernel, by decide +kernel⟩
abbrev s_Heap_put : Stmt := inClass (topS 11) 1
theorem sc_Heap_put : FnScope ["self", "column", "wire"] ["self", "column", "wire"] (defScope s_Heap_put) := ⟨rfl, rfl, rfl, by decide +kernel, rfl, by decide +kernel, by decide +kernel⟩
abbrev s_Heap_heights : Stmt := inClass (topS 11) 2
theorem sc_Heap_heights : FnScope ["self", "dots"] ["self"] (defScope s_Heap_heights) := ⟨rfl, rfl, rfl, by decide +kernel, rfl, by decide +kernel, by decide +kernel⟩
abbrev s_Heap_column : Stmt := inClass (topS 11) 3
theorem sc_Heap_column : FnScope ["self", "k"] ["self", "k"] (defScope s_Heap_column) := ⟨rfl, rfl, rfl, by decide +kernel, rfl, by decide +kernel, by decide +kernel⟩
abbrev s_Heap_press : Stmt := inClass (topS 11) 4
theorem sc_Heap_press : FnScope ["self", "sheet", "k", "dots", "one", "two", "three", "half", "odd", "both", "more", "carry"] ["self", "sheet", "k"] (defScope s_Heap_press) := ⟨rfl, rfl, rfl, by decide +kernel, rfl, by decide +kernel, by decide +kernel⟩
abbrev s_Sheet__init : Stmt := inClass (topS 13) 0
theorem sc_Sheet__init : FnScope ["self"] ["self"] (defScope s_Sheet__init) := ⟨rfl, rfl, rfl, by decide +kernel, rfl, by decide +kernel, by decide +kernel⟩
abbrev s_Sheet_add : Stmt := inClass (topS 13) 1
theorem sc_Sheet_add : FnScope ["self", "row"] ["self", "row"] (defScope s_Sheet_add) := ⟨rfl, rfl, rfl, by decide +kernel, rfl, by decide +kernel, by decide +kernel⟩
abbrev s_Sheet_rows_now : Stmt := inClass (topS 13) 2
theorem sc_Sheet_rows_now : FnScope ["self"] ["self"] (defScope s_Sheet_rows_now) := ⟨rfl, rfl, rfl, by decide +kernel, rfl, by decide +kernel, by decide +kernel⟩
abbrev s_law_mixed : Stmt := topS 15
theorem sc_law_mixed : FnScope ["_law_cell", "_law_k", "_law_number"] ["_law_cell", "_law_k"] (defScope s_law_mixed) := ⟨rfl, rfl, rfl, by decide +kernel, rfl, by decide +kernel, by decide +kernel⟩
abbrev s_law_whole : Stmt := topS 16
theorem sc_law_whole : FnScope ["_law_found"] ["_law_found"] (defScope s_law_whole) := ⟨rfl, rfl, rfl, by decide +kernel, rfl, by decide +kernel, by decide +kernel⟩
abbrev s_law_bits : Stmt := topS 17
theorem sc_law_bits : FnScope ["_law_rows", "_law_words", "_law_bits_here", "_law_row"] ["_law_rows", "_law_words"] (defScope s_law_bits) := ⟨rfl, rfl, rfl, by decide +kernel, rfl, by decide +kernel, by decide +kernel⟩
abbrev s_law_gate : Stmt := topS 18
theorem sc_law_gate : FnScope ["_law_row", "_law_at", "_law_wires", "_law_good_here", "_law_wire"] ["_law_row", "_law_at"] (defScope s_law_gate) := ⟨rfl, rfl, rfl, by decide +kernel, rfl, by decide +kernel, by decide +kernel⟩
abbrev s_law_good : Stmt := topS 19
theorem sc_law_good : FnScope ["_law_rows", "_law_names", "_law_at", "_law_row"] ["_law_rows", "_law_names"] (defScope s_law_good) := ⟨rfl, rfl, rfl, by decide +kernel, rfl, by decide +kernel, by decide +kernel⟩
abbrev s_law_heap : Stmt := topS 20
theorem sc_law_heap : FnScope ["_law_sheet", "_law_cells", "_law_many", "_law_tall", "_law_heap_here", "_law_rows", "_law_wires", "_law_last", "_law_k", "_law_mixed_here", "_law_column", "_law_wire"] ["_law_sheet", "_law_cells", "_law_many", "_law_tall"] (defScope s_law_heap) := ⟨rfl, rfl, rfl, by decide +kernel, rfl, by decide +kernel, by decide +kernel⟩
abbrev s_law_press : Stmt := topS 21
theorem sc_law_press : FnScope ["_law_heap_here", "_law_sheet", "_law_k", "_law_found", "_law_fault", "e"] ["_law_heap_here", "_law_sheet", "_law_k"] (defScope s_law_press) := ⟨rfl, rfl, rfl, by decide +kernel, rfl, by decide +kernel, by decide +kernel⟩
abbrev s_law_two : Stmt := topS 22
theorem sc_law_two : FnScope ["_law_found", "_law_size", "_law_bits_here", "_law_three", "_law_wire", "_law_total"] ["_law_found", "_law_size", "_law_bits_here", "_law_three"] (defScope s_law_two) := ⟨rfl, rfl, rfl, by decide +kernel, rfl, by decide +kernel, by decide +kernel⟩
abbrev s_law_done : Stmt := topS 23
theorem sc_law_done : FnScope ["_law_heap_here", "_law_sheet", "_law_rows", "_law_k", "_law_words", "_law_before", "_law_found", "_law_after", "_law_some"] ["_law_heap_here", "_law_sheet", "_law_rows", "_law_k", "_law_words"] (defScope s_law_done) := ⟨rfl, rfl, rfl, by decide +kernel, rfl, by decide +kernel, by decide +kernel⟩
abbrev s_law : Stmt := topS 24
theorem sc_law : FnScope ["_law_script", "_law_cells", "_law_sheet", "_law_many", "_law_heap_here", "_law_rows", "_law_words", "_law_k", "_law_first", "_law_cell", "_law_row"] ["_law_script"] (defScope s_law) := ⟨rfl, rfl, rfl, by decide +kernel, rfl, by decide +kernel, by decide +kernel⟩

structure Top (K : PySem.W.Frag) (mg : Str → Option Value) where
  a_Heap__init : Addr
  d_Heap__init : FuncData
  f_Heap__init : Fun K "__init__" "Heap.__init__" s_Heap__init a_Heap__init d_Heap__init
  b_Heap__init : Binds K d_Heap__init ["self", "many"] []
  a_Heap_put : Addr
  d_Heap_put : FuncData
  f_Heap_put : Fun K "put" "Heap.put" s_Heap_put a_Heap_put d_Heap_put
  b_Heap_put : Binds K d_Heap_put ["self", "column", "wire"] []
  a_Heap_heights : Addr
  d_Heap_heights : FuncData
  f_Heap_heights : Fun K "heights" "Heap.heights" s_Heap_heights a_Heap_heights d_Heap_heights
  b_Heap_heights : Binds K d_Heap_heights ["self"] []
  a_Heap_column : Addr
  d_Heap_column : FuncData
  f_Heap_column : Fun K "column" "Heap.column" s_Heap_column a_Heap_column d_Heap_column
  b_Heap_column : Binds K d_Heap_column ["self", "k"] []
  a_Heap_press : Addr
  d_Heap_press : FuncData
  f_Heap_press : Fun K "press" "Heap.press" s_Heap_press a_Heap_press d_Heap_press
  b_Heap_press : Binds K d_Heap_press ["self", "sheet", "k"] []
  a_Sheet__init : Addr
  d_Sheet__init : FuncData
  f_Sheet__init : Fun K "__init__" "Sheet.__init__" s_Sheet__init a_Sheet__init d_Sheet__init
  b_Sheet__init : Binds K d_Sheet__init ["self"] []
  a_Sheet_add : Addr
  d_Sheet_add : FuncData
  f_Sheet_add : Fun K "add" "Sheet.add" s_Sheet_add a_Sheet_add d_Sheet_add
  b_Sheet_add : Binds K d_Sheet_add ["self", "row"] []
  a_Sheet_rows_now : Addr
  d_Sheet_rows_now : FuncData
  f_Sheet_rows_now : Fun K "rows_now" "Sheet.rows_now" s_Sheet_rows_now a_Sheet_rows_now d_Sheet_rows_now
  b_Sheet_rows_now : Binds K d_Sheet_rows_now ["self"] []
  a_law_mixed : Addr
  d_law_mixed : FuncData
  f_law_mixed : Fun K "_law_mixed" "_law_mixed" s_law_mixed a_law_mixed d_law_mixed
  b_law_mixed : Binds K d_law_mixed ["_law_cell", "_law_k"] []
  g_law_mixed : mg "_law_mixed" = some (.ref a_law_mixed)
  a_law_whole : Addr
  d_law_whole : FuncData
  f_law_whole : Fun K "_law_whole" "_law_whole" s_law_whole a_law_whole d_law_whole
  b_law_whole : Binds K d_law_whole ["_law_found"] []
  g_law_whole : mg "_law_whole" = some (.ref a_law_whole)
  a_law_bits : Addr
  d_law_bits : FuncData
  f_law_bits : Fun K "_law_bits" "_law_bits" s_law_bits a_law_bits d_law_bits
  b_law_bits : Binds K d_law_bits ["_law_rows", "_law_words"] []
  g_law_bits : mg "_law_bits" = some (.ref a_law_bits)
  a_law_gate : Addr
  d_law_gate : FuncData
  f_law_gate : Fun K "_law_gate" "_law_gate" s_law_gate a_law_gate d_law_gate
  b_law_gate : Binds K d_law_gate ["_law_row", "_law_at"] []
  g_law_gate : mg "_law_gate" = some (.ref a_law_gate)
  a_law_good : Addr
  d_law_good : FuncData
  f_law_good : Fun K "_law_good" "_law_good" s_law_good a_law_good d_law_good
  b_law_good : Binds K d_law_good ["_law_rows", "_law_names"] []
  g_law_good : mg "_law_good" = some (.ref a_law_good)
  a_law_heap : Addr
  d_law_heap : FuncData
  f_law_heap : Fun K "_law_heap" "_law_heap" s_law_heap a_law_heap d_law_heap
  b_law_heap : Binds K d_law_heap ["_law_sheet", "_law_cells", "_law_many", "_law_tall"] []
  g_law_heap : mg "_law_heap" = some (.ref a_law_heap)
  a_law_press : Addr
  d_law_press : FuncData
  f_law_press : Fun K "_law_press" "_law_press" s_law_press a_law_press d_law_press
  b_law_press : Binds K d_law_press ["_law_heap_here", "_law_sheet", "_law_k"] []
  g_law_press : mg "_law_press" = some (.ref a_law_press)
  a_law_two : Addr
  d_law_two : FuncData
  f_law_two : Fun K "_law_two" "_law_two" s_law_two a_law_two d_law_two
  b_law_two : Binds K d_law_two ["_law_found", "_law_size", "_law_bits_here", "_law_three"] []
  g_law_two : mg "_law_two" = some (.ref a_law_two)
  a_law_done : Addr
  d_law_done : FuncData
  f_law_done : Fun K "_law_done" "_law_done" s_law_done a_law_done d_law_done
  b_law_done : Binds K d_law_done ["_law_heap_here", "_law_sheet", "_law_rows", "_law_k", "_law_words"] []
  g_law_done : mg "_law_done" = some (.ref a_law_done)
  a_law : Addr
  d_law : FuncData
  f_law : Fun K "law" "law" s_law a_law d_law
  b_law : Binds K d_law ["_law_script"] []
  g_law : mg "law" = some (.ref a_law)
  c_PressError : Addr
  gc_PressError : mg "PressError" = some (.ref c_PressError)
  nc_PressError : IsC K "PressError" c_PressError
  kc_PressError : PySem.W.keepIn K (.ref c_PressError) = true
  x_PressError : PySem.W.excIn K c_PressError [.type "ValueError", .type "Exception", .type "BaseException", .type "object"] "ValueError.__new__" = true
  xb_PressError : PySem.W.subIn K (.ref c_PressError) (.type "BaseException") = some true
  xt_PressError : PySem.W.typeIn K (.ref c_PressError) = some (.type "type")
  c_TooFew : Addr
  gc_TooFew : mg "TooFew" = some (.ref c_TooFew)
  nc_TooFew : IsC K "TooFew" c_TooFew
  kc_TooFew : PySem.W.keepIn K (.ref c_TooFew) = true
  x_TooFew : PySem.W.excIn K c_TooFew [.type "ValueError", .type "Exception", .type "BaseException", .type "object"] "ValueError.__new__" = true
  xb_TooFew : PySem.W.subIn K (.ref c_TooFew) (.type "BaseException") = some true
  xt_TooFew : PySem.W.typeIn K (.ref c_TooFew) = some (.type "type")
  c_TooMany : Addr
  gc_TooMany : mg "TooMany" = some (.ref c_TooMany)
  nc_TooMany : IsC K "TooMany" c_TooMany
  kc_TooMany : PySem.W.keepIn K (.ref c_TooMany) = true
  x_TooMany : PySem.W.excIn K c_TooMany [.type "ValueError", .type "Exception", .type "BaseException", .type "object"] "ValueError.__new__" = true
  xb_TooMany : PySem.W.subIn K (.ref c_TooMany) (.type "BaseException") = some true
  xt_TooMany : PySem.W.typeIn K (.ref c_TooMany) = some (.type "type")
  c_TooWide : Addr
  gc_TooWide : mg "TooWide" = some (.ref c_TooWide)
  nc_TooWide : IsC K "TooWide" c_TooWide
  kc_TooWide : PySem.W.keepIn K (.ref c_TooWide) = true
  x_TooWide : PySem.W.excIn K c_TooWide [.type "ValueError", .type "Exception", .type "BaseException", .type "object"] "ValueError.__new__" = true
  xb_TooWide : PySem.W.subIn K (.ref c_TooWide) (.type "BaseException") = some true
  xt_TooWide : PySem.W.typeIn K (.ref c_TooWide) = some (.type "type")
  c_NoFormula : Addr
  gc_NoFormula : mg "NoFormula" = some (.ref c_NoFormula)
  nc_NoFormula : IsC K "NoFormula" c_NoFormula
  kc_NoFormula : PySem.W.keepIn K (.ref c_NoFormula) = true
  x_NoFormula : PySem.W.excIn K c_NoFormula [.type "ValueError", .type "Exception", .type "BaseException", .type "object"] "ValueError.__new__" = true
  xb_NoFormula : PySem.W.subIn K (.ref c_NoFormula) (.type "BaseException") = some true
  xt_NoFormula : PySem.W.typeIn K (.ref c_NoFormula) = some (.type "type")
  c_NoName : Addr
  gc_NoName : mg "NoName" = some (.ref c_NoName)
  nc_NoName : IsC K "NoName" c_NoName
  kc_NoName : PySem.W.keepIn K (.ref c_NoName) = true
  x_NoName : PySem.W.excIn K c_NoName [.type "ValueError", .type "Exception", .type "BaseException", .type "object"] "ValueError.__new__" = true
  xb_NoName : PySem.W.subIn K (.ref c_NoName) (.type "BaseException") = some true
  xt_NoName : PySem.W.typeIn K (.ref c_NoName) = some (.type "type")
  c_NoLine : Addr
  gc_NoLine : mg "NoLine" = some (.ref c_NoLine)
  nc_NoLine : IsC K "NoLine" c_NoLine
  kc_NoLine : PySem.W.keepIn K (.ref c_NoLine) = true
  x_NoLine : PySem.W.excIn K c_NoLine [.type "ValueError", .type "Exception", .type "BaseException", .type "object"] "ValueError.__new__" = true
  xb_NoLine : PySem.W.subIn K (.ref c_NoLine) (.type "BaseException") = some true
  xt_NoLine : PySem.W.typeIn K (.ref c_NoLine) = some (.type "type")
  c_NoCircuit : Addr
  gc_NoCircuit : mg "NoCircuit" = some (.ref c_NoCircuit)
  nc_NoCircuit : IsC K "NoCircuit" c_NoCircuit
  kc_NoCircuit : PySem.W.keepIn K (.ref c_NoCircuit) = true
  x_NoCircuit : PySem.W.excIn K c_NoCircuit [.type "ValueError", .type "Exception", .type "BaseException", .type "object"] "ValueError.__new__" = true
  xb_NoCircuit : PySem.W.subIn K (.ref c_NoCircuit) (.type "BaseException") = some true
  xt_NoCircuit : PySem.W.typeIn K (.ref c_NoCircuit) = some (.type "type")
  c_OutOfWidth : Addr
  gc_OutOfWidth : mg "OutOfWidth" = some (.ref c_OutOfWidth)
  nc_OutOfWidth : IsC K "OutOfWidth" c_OutOfWidth
  kc_OutOfWidth : PySem.W.keepIn K (.ref c_OutOfWidth) = true
  x_OutOfWidth : PySem.W.excIn K c_OutOfWidth [.type "ValueError", .type "Exception", .type "BaseException", .type "object"] "ValueError.__new__" = true
  xb_OutOfWidth : PySem.W.subIn K (.ref c_OutOfWidth) (.type "BaseException") = some true
  xt_OutOfWidth : PySem.W.typeIn K (.ref c_OutOfWidth) = some (.type "type")
  c_Heap : Addr
  gc_Heap : mg "Heap" = some (.ref c_Heap)
  nc_Heap : IsC K "Heap" c_Heap
  kc_Heap : PySem.W.keepIn K (.ref c_Heap) = true
  cl_Heap : Cls K c_Heap
  mk_Heap : Mk K c_Heap a_Heap__init
  m_Heap_put : Meth K c_Heap "put" a_Heap_put
  m_Heap_heights : Meth K c_Heap "heights" a_Heap_heights
  m_Heap_column : Meth K c_Heap "column" a_Heap_column
  m_Heap_press : Meth K c_Heap "press" a_Heap_press
  n_Heap_many : NoAttr K c_Heap "many"
  n_Heap_columns : NoAttr K c_Heap "columns"
  c_Sheet : Addr
  gc_Sheet : mg "Sheet" = some (.ref c_Sheet)
  nc_Sheet : IsC K "Sheet" c_Sheet
  kc_Sheet : PySem.W.keepIn K (.ref c_Sheet) = true
  cl_Sheet : Cls K c_Sheet
  mk_Sheet : Mk K c_Sheet a_Sheet__init
  m_Sheet_add : Meth K c_Sheet "add" a_Sheet_add
  m_Sheet_rows_now : Meth K c_Sheet "rows_now" a_Sheet_rows_now
  n_Sheet_rows : NoAttr K c_Sheet "rows"
  ehd_PressError : PySem.W.hasDictIn K c_PressError = true
  ehd_TooFew : PySem.W.hasDictIn K c_TooFew = true
  ega_TooFew : PySem.W.findIn K (.ref c_TooFew) "__getattribute__" = some (some (.builtin "BaseException.__getattribute__"))
  egg_TooFew : PySem.W.findIn K (.ref c_TooFew) "__getattr__" = some none
  ecl_TooFew : PySem.W.findIn K (.ref c_TooFew) "__class__" = some (some (.builtin "object.__class__"))
  esp_TooFew : PySem.W.specialIn K (.builtin "object.__class__") "__get__" = some (some (.builtin "getset_descriptor.__get__"))
  etk_TooFew : PySem.W.takesIn K (.builtin "object.__class__") = some true
  emr_TooFew : PySem.W.mroIn K c_TooFew (.type "object") = some true
  sv_TooFew : PySem.W.subIn K (.ref c_TooFew) (.type "ValueError") = some true
  kv_TooFew : PySem.W.kitOne K (.ref c_TooFew) (.type "ValueError") = some true
  s_TooFew_PressError : PySem.W.subIn K (.ref c_TooFew) (.ref c_PressError) = some true
  k_TooFew_PressError : PySem.W.kitOne K (.ref c_TooFew) (.ref c_PressError) = some true
  s_TooFew_TooFew : PySem.W.subIn K (.ref c_TooFew) (.ref c_TooFew) = some true
  k_TooFew_TooFew : PySem.W.kitOne K (.ref c_TooFew) (.ref c_TooFew) = some true
  m_TooFew_TooFew : PySem.W.exmOne K (.ref c_TooFew) (.ref c_TooFew) = some true
  s_TooFew_TooMany : PySem.W.subIn K (.ref c_TooFew) (.ref c_TooMany) = some false
  k_TooFew_TooMany : PySem.W.kitOne K (.ref c_TooFew) (.ref c_TooMany) = some false
  s_TooFew_TooWide : PySem.W.subIn K (.ref c_TooFew) (.ref c_TooWide) = some false
  k_TooFew_TooWide : PySem.W.kitOne K (.ref c_TooFew) (.ref c_TooWide) = some false
  s_TooFew_NoFormula : PySem.W.subIn K (.ref c_TooFew) (.ref c_NoFormula) = some false
  k_TooFew_NoFormula : PySem.W.kitOne K (.ref c_TooFew) (.ref c_NoFormula) = some false
  s_TooFew_NoName : PySem.W.subIn K (.ref c_TooFew) (.ref c_NoName) = some false
  k_TooFew_NoName : PySem.W.kitOne K (.ref c_TooFew) (.ref c_NoName) = some false
  s_TooFew_NoLine : PySem.W.subIn K (.ref c_TooFew) (.ref c_NoLine) = some false
  k_TooFew_NoLine : PySem.W.kitOne K (.ref c_TooFew) (.ref c_NoLine) = some false
  s_TooFew_NoCircuit : PySem.W.subIn K (.ref c_TooFew) (.ref c_NoCircuit) = some false
  k_TooFew_NoCircuit : PySem.W.kitOne K (.ref c_TooFew) (.ref c_NoCircuit) = some false
  s_TooFew_OutOfWidth : PySem.W.subIn K (.ref c_TooFew) (.ref c_OutOfWidth) = some false
  k_TooFew_OutOfWidth : PySem.W.kitOne K (.ref c_TooFew) (.ref c_OutOfWidth) = some false
  ehd_TooMany : PySem.W.hasDictIn K c_TooMany = true
  ehd_TooWide : PySem.W.hasDictIn K c_TooWide = true
  ehd_NoFormula : PySem.W.hasDictIn K c_NoFormula = true
  ehd_NoName : PySem.W.hasDictIn K c_NoName = true
  ehd_NoLine : PySem.W.hasDictIn K c_NoLine = true
  ehd_NoCircuit : PySem.W.hasDictIn K c_NoCircuit = true
  ehd_OutOfWidth : PySem.W.hasDictIn K c_OutOfWidth = true
  z_ValueError : mg "ValueError" = none
  z_bool : mg "bool" = none
  z_enumerate : mg "enumerate" = none
  z_int : mg "int" = none
  z_isinstance : mg "isinstance" = none
  z_len : mg "len" = none
  z_list : mg "list" = none
  z_max : mg "max" = none
  z_range : mg "range" = none
  z_str : mg "str" = none
  z_sum : mg "sum" = none
  z_tuple : mg "tuple" = none

section
variable {P : Program} {w : World} {K : PySem.W.Frag} {mg : Str → Option Value} {base : Heap}


/-! the walk: one step a construct -/
open PySem PySem.Spec PyProof.Rows L2 Dpr
local macro_rules | `(tactic| walk_at "hp") => `(tactic| first
  | assumption
  | exact upd_same
  | (apply hp_upd; assumption; walk_at "hp")
  | (apply hp_upd2; assumption; walk_at "hp")
  | (apply same_at; assumption; walk_at "hp"))
local macro_rules | `(tactic| walk_at "sq") => `(tactic| first
  | assumption
  | exact SqL.of (by assumption)
  | exact SqL.of upd_same
  | exact SqT.of (by assumption)
  | (apply SqL.of; walk_at "hp")
  | (apply SqT.of; walk_at "hp")
  | (apply Same.seq; assumption; walk_at "sq")
  | (apply same_tup; assumption; walk_at "sq"))
local macro_rules | `(tactic| walk_at "sz") => `(tactic| first
  | omega
  | (simp only [List.length_map, List.length_append, List.length_cons, List.length_nil, List.length_range, List.length_replicate, List.length_take]; omega))
local macro_rules | `(tactic| walk_at "w1") => `(tactic| first
  | with_reducible refine w_seq ?_
  | with_reducible refine w_asg ?_
  | ((with_reducible apply w_var); rfl)
  | with_reducible refine w_c ?_
  | with_reducible refine w_op ?_
  | with_reducible refine w_un ?_
  | with_reducible refine w_I0 ?_
  | with_reducible refine w_U ?_
  | with_reducible refine w_bl ?_
  | with_reducible refine w_test ?_
  | with_reducible refine w_tB ?_
  | ((with_reducible refine w_eq ?_ ?_); rfl)
  | ((with_reducible refine w_ne ?_ ?_); rfl)
  | with_reducible refine w_if ?_
  | with_reducible refine w_cons ?_
  | with_reducible refine w_nil ?_
  | with_reducible refine w_itT ?_
  | with_reducible refine w_itF ?_
  | ((with_reducible refine w_itS1 ?_ ?_); decide +kernel)
  | ((with_reducible refine w_itS0 ?_ ?_); decide +kernel)
  | ((with_reducible refine w_itN1 ?_ ?_); decide +kernel)
  | ((with_reducible refine w_itN0 ?_ ?_); decide +kernel)
  | with_reducible refine w_dget ?_
  | ((with_reducible apply w_DG1); (walk_at "hp"); assumption)
  | ((with_reducible refine w_itC ?_ ?_); (first | decide +kernel | (simp only [List.length_cons, List.length_nil]; decide +kernel)))
  | ((with_reducible refine w_itD ?_ ?_); (first | decide +kernel | (simp only [List.length_cons, List.length_nil]; decide +kernel)))
  | with_reducible refine w_asgG ?_
  | with_reducible refine w_drop ?_
  | with_reducible refine w_ret ?_
  | with_reducible refine w_retN ?_
  | with_reducible refine w_next ?_
  | with_reducible refine w_cont ?_
  | with_reducible refine w_brk ?_
  | ((with_reducible apply w_aug); rfl)
  | with_reducible refine w_ipI ?_
  | with_reducible refine w_chain ?_
  | with_reducible refine w_and ?_
  | with_reducible refine w_or ?_
  | with_reducible refine w_not ?_
  | with_reducible refine w_andV ?_
  | with_reducible refine w_orV ?_
  | with_reducible refine w_notV ?_
  | with_reducible refine w_ifx ?_
  | with_reducible refine w_call ?_
  | with_reducible refine w_cb ?_
  | ((with_reducible refine w_for ?_); (try simp only [List.set_cons_zero, List.set_cons_succ]))
  | ((with_reducible refine w_lc ?_); (try simp only [List.set_cons_zero, List.set_cons_succ]))
  | with_reducible refine w_bm ?_
  | with_reducible refine w_bm0 ?_
  | ((with_reducible apply w_BML); (walk_at "hp"))
  | ((with_reducible apply w_BM0L); (walk_at "hp"))
  | ((with_reducible apply w_append); (walk_at "hp"); (try (walk_at "sz")))
  | ((with_reducible apply w_gTup); (walk_at "sq"); rfl)
  | with_reducible refine w_gCons ?_
  | with_reducible refine w_gNil ?_
  | with_reducible refine w_gName ?_
  | with_reducible refine w_iE ?_
  | ((with_reducible apply w_IE1); (walk_at "sq"))
  | with_reducible refine w_intB ?_
  | with_reducible refine w_tm1 ?_
  | with_reducible refine w_M11 ?_
  | ((with_reducible apply w_inL); (walk_at "sq"); rfl; rfl)
  | ((with_reducible apply w_inT); (walk_at "sq"); rfl; rfl)
  | ((with_reducible apply w_niL); (walk_at "sq"); rfl; rfl)
  | ((with_reducible apply w_niT); (walk_at "sq"); rfl; rfl)
  | with_reducible refine w_bit1 ?_
  | with_reducible refine w_shrN ?_
  | ((with_reducible refine w_shlN ?_ ?_); omega)
  | ((with_reducible refine w_divP ?_ ?_); omega)
  | with_reducible refine w_iL ?_
  | with_reducible refine w_iT ?_
  | with_reducible refine w_iR1 ?_
  | with_reducible refine w_iR2 ?_
  | ((with_reducible apply w_IL1); (walk_at "sq"))
  | ((with_reducible apply w_IT1); (walk_at "sq"))
  | ((with_reducible refine w_IR1 ?_ ?_); (walk_at "sz"))
  | ((with_reducible refine w_IR2 ?_ ?_); (walk_at "sz"))
  | ((with_reducible apply w_sl); (walk_at "sq"); intro _ _ _ _ _)
  | with_reducible refine w_tsl ?_
  | with_reducible refine w_tnp ?_
  | with_reducible refine w_tpt ?_
  | with_reducible refine w_pt ?_
  | ((with_reducible apply w_cat); (walk_at "hp"); (walk_at "hp"); (try (walk_at "sz")))
  | ((with_reducible apply w_listL); (walk_at "sq"); intro _ _ _ _ _)
  | ((with_reducible apply w_listT); (walk_at "sq"); intro _ _ _ _ _)
  | with_reducible refine w_tbits ?_
  | with_reducible refine w_bits ?_
  | with_reducible refine w_tup ?_
  | with_reducible refine w_lst ?_
  | ((with_reducible refine w_alT ?_ ?_); (exact sz_le rfl); intro _ _ _ _ _)
  | ((with_reducible refine w_alL ?_ ?_); (exact sz_le rfl); intro _ _ _ _ _)
  | with_reducible refine w_abs ?_
  | with_reducible refine w_max2 ?_
  | with_reducible refine w_min2 ?_
  | ((with_reducible refine w_I ?_ ?_); (first | exact ⟨by decide, by decide⟩ | (show (_ : Int) < _; decide) | exact p2pos _ | exact ⟨by omega, by omega, by decide⟩ | exact ⟨by omega, by omega⟩ | (show (_ : Int) < _; omega) | (show (_ : Int) ≤ _; omega) | exact .of_left (by decide) | exact .of_right (by decide) | exact mul_sm (by omega) | exact mul_sm2 (by omega) | exact mul_cc (by assumption) (by assumption) | exact mul_ok2 (n := 250) (by assumption) (by decide) (by decide)))
  | ((with_reducible apply w_ixL); (walk_at "sq"); rfl)
  | ((with_reducible apply w_ixT); (walk_at "sq"); rfl)
  | ((with_reducible apply w_lenL); (walk_at "sq"))
  | ((with_reducible apply w_lenT); (walk_at "sq"))
  | (with_reducible refine w_isi (TyX.base (TyOf.int _)) (kit_ii _) ?_)
  | (with_reducible refine w_isi (TyX.base (TyOf.int _)) (kit_ib _) ?_)
  | (with_reducible refine w_isi (TyX.base (TyOf.bl _)) (kit_bi _) ?_)
  | (with_reducible refine w_isi (TyX.base (TyOf.bl _)) (kit_bb _) ?_)
  | (with_reducible refine w_isi (TyX.base (TyOf.str _)) (kit_ss _) ?_)
  | ((with_reducible apply w_isiT); (walk_at "hp"))
  | ((with_reducible apply w_isiL); (walk_at "hp")))
local macro_rules | `(tactic| walk_at "split") => `(tactic| first
  | ((with_reducible refine w_itS ?_ ?_) <;> intro _)
  | ((with_reducible refine w_itSN ?_ ?_) <;> intro _)
  | ((with_reducible refine w_itI ?_ ?_) <;> intro _)
  | ((with_reducible refine w_itN ?_ ?_) <;> intro _)
  | ((with_reducible refine w_itn ?_ ?_) <;> intro _)
  | ((with_reducible refine w_itd ?_ ?_) <;> intro _)
  | ((with_reducible refine w_itb ?_ ?_) <;> intro _))
local macro_rules | `(tactic| walk_at "wk") => `(tactic| repeat' (walk_at "w1"))
local macro_rules | `(tactic| walk_at "ws") => `(tactic| repeat' (first | (walk_at "w1") | ((walk_at "split") <;> (try (exfalso; omega)))))

local macro_rules | `(tactic| walk_at "w1") => `(tactic| first
  | ((with_reducible refine w_disp ?_); intro _ _ _ _ _)
  | with_reducible refine w_pairs ?_
  | with_reducible refine w_pairs0 ?_
  | ((with_reducible apply w_dictD); (walk_at "hp"); intro _ _ _ _ _))

local macro_rules | `(tactic| walk_at "w1") => `(tactic| first
  | with_reducible refine w_dput ?_
  | ((with_reducible apply w_DPutB); (walk_at "hp"); (walk_at "sz"))
  | ((with_reducible apply w_insert); (walk_at "hp"); (walk_at "sz"); omega)
  | ((with_reducible refine w_dnewK ?_); intro _ _ _ _ _)
  | with_reducible refine w_revR ?_
  | with_reducible refine w_rg1 ?_
  | with_reducible refine w_RG1 ?_
  | ((with_reducible refine w_RevB ?_ ?_); omega))

local macro_rules | `(tactic| walk_at "w1") => `(tactic| first
  | ((with_reducible apply w_slT1); (walk_at "sq"); intro _ _ _ _ _))

local macro_rules | `(tactic| walk_at "w1") => `(tactic| first
  | with_reducible refine w_isNo1 ?_
  | with_reducible refine w_isNo0 ?_
  | with_reducible refine w_notNo1 ?_
  | with_reducible refine w_notNo0 ?_)

local macro_rules | `(tactic| walk_at "lk") => `(tactic| first
  | exact lookup_hd
  | exact lookup_no
  | ((refine lookup_tl ?_ ?_); decide +kernel; (walk_at "lk")))
local macro_rules | `(tactic| walk_at "w1") => `(tactic| first
  | with_reducible refine w_fld ?_
  | ((with_reducible apply w_FldB); (walk_at "hp"); assumption; assumption; (walk_at "lk"))
  | with_reducible refine w_sfld ?_
  | ((with_reducible apply w_SFldB); (walk_at "hp"); assumption; assumption; exact Nat.le_of_ble_eq_true rfl)
  | with_reducible refine w_meth ?_
  | ((with_reducible apply w_MethB); (walk_at "hp"); (walk_at "lk")))

local macro_rules | `(tactic| walk_at "w1") => `(tactic| first
  | with_reducible refine w_dnin ?_
  | with_reducible refine w_mk ?_
  | ((with_reducible refine w_MkB ?_); intro _ _ _ _ _ _ _)
  | with_reducible refine w_notNoI ?_
  | with_reducible refine w_din ?_
  | ((with_reducible refine w_dnewT ?_); intro _ _ _ _ _)
  | with_reducible refine w_gSub ?_
  | ((with_reducible apply w_tupL); (walk_at "sq"); intro _ _ _ _ _))

local macro_rules | `(tactic| walk_at "w1") => `(tactic| first
  | with_reducible refine w_methS ?_
  | ((with_reducible apply w_MethSB); (walk_at "hp"); (walk_at "lk"))
  | with_reducible refine w_callS ?_)

def sp_law_whole (K : PySem.W.Frag) : Sp := fun vs H Q _ => ∃ i : Int, vs = [.int i] ∧ Q (.bl true) H
theorem ok_law_whole (T : Top K mg) : FnOk P w K mg base CX0 1 T.a_law_whole T.d_law_whole ["_law_found"] (sp_law_whole K) := by
  refine T.f_law_whole.ok sc_law_whole (fun vs H Q E h => ?_) (fun cdv A outer s H vs Q E hr h => ?_)
  · obtain ⟨i, rfl, _⟩ := h
    rfl
  obtain ⟨i, rfl, h⟩ := h
  refine ⟨_, (pss_one (ps_ret (pe_and (pe_callB (c_isiK K) (by rfl) T.z_isinstance (by decide +kernel) (pa_cons (pv 0) (pa_cons (pe_bltn (v := .ty "int") (by rfl) T.z_int (by decide +kernel) rfl) pa_nil))) (pe_one (pe_not (pe_callB (c_isiK K) (by rfl) T.z_isinstance (by decide +kernel) (pa_cons (pv 0) (pa_cons (pe_bltn (v := .ty "bool") (by rfl) T.z_bool (by decide +kernel) rfl) pa_nil)))))))), ?_⟩
  try dsimp only [cxOf, Cx.nox, Cx.wish]
  simp only [L2.start, List.map_cons, List.map_nil, List.length_cons, List.length_nil, Nat.reduceAdd, Nat.reduceSub, List.replicate_succ, List.replicate_zero, List.cons_append, List.nil_append]
  walk_at "wk"
  exact h
theorem use_whole {i : Int} {H : Hp} {Q : VK} {E : XK} (h : Q (.bl true) H) : sp_law_whole K ([.int i] ++ []) H Q E := ⟨i, rfl, h⟩
local macro_rules | `(tactic| walk_at "w1") => `(tactic| with_reducible refine use_whole ?_)

/-! lengths of short lists and tuples -/
theorem w_lenT2 {K : PySem.W.Frag} {H : Hp} {Q : VK} {p : Addr} {x y : V} (h : SqT K H p [x, y]) (q : Q (.int 2) H) : rLen K [.ref p] H Q := ⟨p, _, rfl, .inr h, q⟩
theorem w_lenT3 {K : PySem.W.Frag} {H : Hp} {Q : VK} {p : Addr} {x y z : V} (h : SqT K H p [x, y, z]) (q : Q (.int 3) H) : rLen K [.ref p] H Q := ⟨p, _, rfl, .inr h, q⟩
local macro_rules | `(tactic| walk_at "w1") => `(tactic| first
  | ((with_reducible apply w_lenT2); (walk_at "sq"))
  | ((with_reducible apply w_lenT3); (walk_at "sq")))
theorem w_lenL0 {K : PySem.W.Frag} {H : Hp} {Q : VK} {p : Addr} (h : SqL K H p []) (q : Q (.int 0) H) : rLen K [.ref p] H Q := ⟨p, _, rfl, .inl h, q⟩
theorem w_lenL1 {K : PySem.W.Frag} {H : Hp} {Q : VK} {p : Addr} {x : V} (h : SqL K H p [x]) (q : Q (.int 1) H) : rLen K [.ref p] H Q := ⟨p, _, rfl, .inl h, q⟩
theorem w_lenL2 {K : PySem.W.Frag} {H : Hp} {Q : VK} {p : Addr} {x y : V} (h : SqL K H p [x, y]) (q : Q (.int 2) H) : rLen K [.ref p] H Q := ⟨p, _, rfl, .inl h, q⟩
local macro_rules | `(tactic| walk_at "w1") => `(tactic| first
  | ((with_reducible apply w_lenL0); (walk_at "sq"))
  | ((with_reducible apply w_lenL1); (walk_at "sq"))
  | ((with_reducible apply w_lenL2); (walk_at "sq")))

/-! numbers drawn from a cell -/
def mixF (c k : Int) : Int :=
  if 10 ^ Int.toNat 40 ≤ c then (c - 10 ^ Int.toNat 40) / (1 * 2 ^ (100 * (k % 60)).toNat) % (1 * 2 ^ Int.toNat 100)
  else ((c * c + 3 * c + 7919 * k + 1) * 48271 % 2147483629 * ((c * c + 3 * c + 7919 * k + 1) * 48271 % 2147483629) + 7) % 2147483587
theorem mixF_bd (c k : Int) : 0 ≤ mixF c k ∧ mixF c k < 2 ^ 100 := by
  unfold mixF
  have e : (1 : Int) * 2 ^ Int.toNat 100 = 2 ^ 100 := by decide
  split
  · rw [e]
    exact ⟨Int.emod_nonneg _ (by decide), Int.emod_lt_of_pos _ (by decide)⟩
  · have h1 := Int.emod_nonneg ((c * c + 3 * c + 7919 * k + 1) * 48271 % 2147483629 * ((c * c + 3 * c + 7919 * k + 1) * 48271 % 2147483629) + 7) (show (2147483587 : Int) ≠ 0 by decide)
    have h2 := Int.emod_lt_of_pos ((c * c + 3 * c + 7919 * k + 1) * 48271 % 2147483629 * ((c * c + 3 * c + 7919 * k + 1) * 48271 % 2147483629) + 7) (show (0 : Int) < 2147483587 by decide)
    exact ⟨h1, Int.lt_trans h2 (by decide)⟩
theorem mul_cd {i j : Int} (hi : Builtin.Int.intBits i ≤ 1048600) (hj : Builtin.Int.intBits j ≤ 1048600) : IntMulOk i j :=
  CMulX.ok (show (Builtin.Int.intBits i : Int) + (Builtin.Int.intBits j : Int) ≤ 134217728 by omega)
local macro_rules | `(tactic| walk_at "w1") => `(tactic| ((with_reducible refine w_I ?_ ?_); (exact mul_cd (by assumption) (by assumption))))
def sp_law_mixed (K : PySem.W.Frag) : Sp := fun vs H Q _ => ∃ c k : Int, vs = [.int c, .int k] ∧ Builtin.Int.intBits c ≤ 1048600 ∧ (0 ≤ k ∧ k ≤ 1000000) ∧ Q (.int (mixF c k)) H
theorem ok_law_mixed (T : Top K mg) : FnOk P w K mg base CX0 1 T.a_law_mixed T.d_law_mixed ["_law_cell", "_law_k"] (sp_law_mixed K) := by
  refine T.f_law_mixed.ok sc_law_mixed (fun vs H Q E h => ?_) (fun cdv A outer s H vs Q E hr h => ?_)
  · obtain ⟨c, k, rfl, _⟩ := h
    rfl
  obtain ⟨c, k, rfl, h⟩ := h
  refine ⟨_, (pss_cons (ps_if (pt_cmpR op_ge (pv 0) (pe_op op_pow pe_int pe_int) (nomark _)) (pss_one (ps_ret (pe_op op_mod (pe_op op_fdivW (pe_op op_sub (pv 0) (pe_op op_pow pe_int pe_int)) (pe_op op_shl pe_int (pe_op op_mulI pe_int (pe_op op_mod (pv 1) pe_int)))) (pe_op op_shl pe_int pe_int)))) pss_nil)
      (pss_cons (ps_set (i := 2) sc_law_mixed.nd rfl (.inl rfl) (pe_op op_mod (pe_op op_mulI (pe_op op_add (pe_op op_add (pe_op op_add (pe_op op_mulI (pv 0) (pv 0)) (pe_op op_mulI pe_int (pv 0))) (pe_op op_mulI pe_int (pv 1))) pe_int) pe_int) pe_int))
      (pss_one (ps_ret (pe_op op_mod (pe_op op_add (pe_op op_mulI (pv 2) (pv 2)) pe_int) pe_int))))), ?_⟩
  try dsimp only [cxOf, Cx.nox, Cx.wish]
  simp only [L2.start, List.map_cons, List.map_nil, List.length_cons, List.length_nil, Nat.reduceAdd, Nat.reduceSub, List.replicate_succ, List.replicate_zero, List.cons_append, List.nil_append]
  obtain ⟨hc, hk, h⟩ := h
  walk_at "ws"
  · rename_i hb
    have hp : (0 : Int) < 1 * 2 ^ (100 * (k % 60)).toNat := by
      rw [Int.one_mul]
      exact p2pos _
    refine w_I (wide_div hp (b := 6001) (by rw [abs_pow]; exact Nat.pow_lt_pow_right (by decide) (by omega)) (by decide) (by decide)) ?_
    walk_at "ws"
    have e : mixF c k = (c - 10 ^ Int.toNat 40) / (1 * 2 ^ (100 * (k % 60)).toNat) % (1 * 2 ^ Int.toNat 100) := by rw [mixF, if_pos hb]
    rw [e] at h
    exact h
  · rename_i hb
    have e : mixF c k = ((c * c + 3 * c + 7919 * k + 1) * 48271 % 2147483629 * ((c * c + 3 * c + 7919 * k + 1) * 48271 % 2147483629) + 7) % 2147483587 := by rw [mixF, if_neg hb]
    rw [e] at h
    exact h
theorem use_mixed {c k : Int} {H : Hp} {Q : VK} {E : XK} (hc : Builtin.Int.intBits c ≤ 1048600) (hk : 0 ≤ k ∧ k ≤ 1000000) (h : ∀ v, mixF c k = v → 0 ≤ v → v < 2 ^ 100 → Q (.int v) H) : sp_law_mixed K ([.int c, .int k] ++ []) H Q E :=
  ⟨c, k, rfl, hc, hk, h _ rfl (mixF_bd c k).1 (mixF_bd c k).2⟩
local macro_rules | `(tactic| walk_at "w1") => `(tactic| ((with_reducible refine use_mixed ?_ ?_ ?_); (first | assumption | exact Nat.le_trans (by assumption) (by decide)); omega; intro _ _ _ _))

def sp_Sheet__init (K : PySem.W.Frag) : Sp := fun vs H Q _ => ∃ (s C dx : Addr), vs = [.ref s] ∧ H s = some (.ins C dx []) ∧ IsC K "Sheet" C ∧ ∀ (r : Addr) (H1 : Hp), H r = none → Same H H1 → H1 r = some (.lst []) → Q .non (upd H1 s (.ins C dx [("rows", .ref r)]))
theorem ok_Sheet__init (T : Top K mg) : FnOk P w K mg base CX0 1 T.a_Sheet__init T.d_Sheet__init ["self"] (sp_Sheet__init K) := by
  refine T.f_Sheet__init.ok sc_Sheet__init (fun vs H Q E h => ?_) (fun cdv A outer s H vs Q E hr h => ?_)
  · obtain ⟨s, C, dx, rfl, _⟩ := h
    rfl
  obtain ⟨s, C, dx, rfl, h⟩ := h
  refine ⟨_, (pss_one (ps_fld (pv 0) (pe_lst pa_nil) rfl)), ?_⟩
  try dsimp only [cxOf, Cx.nox, Cx.wish]
  simp only [L2.start, List.map_cons, List.map_nil, List.length_cons, List.length_nil, Nat.reduceAdd, Nat.reduceSub, List.replicate_succ, List.replicate_zero, List.cons_append, List.nil_append]
  obtain ⟨hs, hC, h⟩ := h
  obtain rfl := hC.one T.nc_Sheet
  have c1 := T.cl_Sheet
  have c2 := T.n_Sheet_rows
  walk_at "ws"
  rename_i r H1 n1 s1 e1
  exact h r H1 n1 s1 e1
def sp_Sheet_add (K : PySem.W.Frag) : Sp := fun vs H Q _ => ∃ (s r : Addr) (xs : List V) (y : V), vs = [.ref s, y] ∧ SheetAt K H s r ∧ H r = some (.lst xs) ∧ xs.length ≤ 1000000 ∧ Q (.int (xs.length : Int)) (upd H r (.lst (xs ++ [y])))
theorem ok_Sheet_add (T : Top K mg) : FnOk P w K mg base CX0 1 T.a_Sheet_add T.d_Sheet_add ["self", "row"] (sp_Sheet_add K) := by
  refine T.f_Sheet_add.ok sc_Sheet_add (fun vs H Q E h => ?_) (fun cdv A outer s H vs Q E hr h => ?_)
  · obtain ⟨s, r, xs, y, rfl, _⟩ := h
    rfl
  obtain ⟨s, r, xs, y, rfl, h⟩ := h
  refine ⟨_, (pss_cons (ps_expr (pe_bm PySem.F.plainAttrs_list PySem.F.slot_list_append PySem.F.type_list_append mt_append (pe_fld (pv 0) rfl) (pa_cons (pv 1) pa_nil)))
      (pss_one (ps_ret (pe_op op_sub (pe_callB (c_lenK K) (by rfl) T.z_len PySem.boot_len (pa_cons (pe_fld (pv 0) rfl) pa_nil)) pe_int)))), ?_⟩
  try dsimp only [cxOf, Cx.nox, Cx.wish]
  simp only [L2.start, List.map_cons, List.map_nil, List.length_cons, List.length_nil, Nat.reduceAdd, Nat.reduceSub, List.replicate_succ, List.replicate_zero, List.cons_append, List.nil_append]
  obtain ⟨⟨C, dx, hs, hC⟩, hr, hl, h⟩ := h
  obtain rfl := hC.one T.nc_Sheet
  have c1 := T.cl_Sheet
  have c2 := T.n_Sheet_rows
  have ne : s ≠ r := fun z => by
    rw [z, hr] at hs
    cases hs
  walk_at "ws"
  have e : (((xs ++ [y]).length : Nat) : Int) - 1 = (xs.length : Int) := by
    rw [List.length_append, List.length_singleton]
    omega
  rw [e]
  exact h
def sp_Sheet_rows_now (K : PySem.W.Frag) : Sp := fun vs H Q _ => ∃ (s r : Addr) (xs : List V), vs = [.ref s] ∧ SheetAt K H s r ∧ H r = some (.lst xs) ∧ xs.length ≤ 1000000 ∧ ∀ p H', H p = none → Same H H' → H' p = some (.lst xs) → Q (.ref p) H'
theorem ok_Sheet_rows_now (T : Top K mg) : FnOk P w K mg base CX0 1 T.a_Sheet_rows_now T.d_Sheet_rows_now ["self"] (sp_Sheet_rows_now K) := by
  refine T.f_Sheet_rows_now.ok sc_Sheet_rows_now (fun vs H Q E h => ?_) (fun cdv A outer s H vs Q E hr h => ?_)
  · obtain ⟨s, r, xs, rfl, _⟩ := h
    rfl
  obtain ⟨s, r, xs, rfl, h⟩ := h
  refine ⟨_, (pss_one (ps_ret (pe_callTy (c_listK K) (by rfl) T.z_list (by decide +kernel) (pa_cons (pe_fld (pv 0) rfl) pa_nil)))), ?_⟩
  try dsimp only [cxOf, Cx.nox, Cx.wish]
  simp only [L2.start, List.map_cons, List.map_nil, List.length_cons, List.length_nil, Nat.reduceAdd, Nat.reduceSub, List.replicate_succ, List.replicate_zero, List.cons_append, List.nil_append]
  obtain ⟨⟨C, dx, hs, hC⟩, hr, hl, h⟩ := h
  obtain rfl := hC.one T.nc_Sheet
  have c1 := T.cl_Sheet
  have c2 := T.n_Sheet_rows
  walk_at "ws"
  rename_i p H1 n1 s1 e1
  exact h p H1 n1 s1 e1

/-! heaps of dots -/
def HeapAt (K : PySem.W.Frag) (H : Hp) (h c : Addr) (ps : List Addr) (cols : List (List Nat)) : Prop := (∃ C dx, H h = some (.ins C dx [("many", .int (cols.length : Int)), ("columns", .ref c)]) ∧ IsC K "Heap" C) ∧ Cols H c ps cols
theorem HeapAt.same {H H' : Hp} {h c : Addr} {ps : List Addr} {cols : List (List Nat)} (s : Same H H') (k : HeapAt K H h c ps cols) : HeapAt K H' h c ps cols := by
  obtain ⟨⟨C, dx, h1, h2⟩, h3⟩ := k
  exact ⟨⟨C, dx, s _ _ h1, h2⟩, h3.same s⟩
theorem HeapAt.hn {H : Hp} {h c : Addr} {ps : List Addr} {cols : List (List Nat)} (k : HeapAt K H h c ps cols) : h ∉ ps := fun m => by
  obtain ⟨⟨C, dx, h1, h2⟩, h3⟩ := k
  obtain ⟨xs, e⟩ := h3.at m
  rw [h1] at e
  cases e
theorem HeapAt.trk {H : Hp} {h c : Addr} {ps : List Addr} {cols : List (List Nat)} (k : HeapAt K H h c ps cols) (x : Addr) (hx : x = h ∨ x = c ∨ x ∈ ps) : H x ≠ none := fun e => by
  obtain ⟨⟨C, dx, h1, h2⟩, h3⟩ := k
  rcases hx with rfl | rfl | hx
  · rw [h1] at e; cases e
  · rw [h3.1] at e; cases e
  · obtain ⟨xs, e2⟩ := h3.at hx
    rw [e2] at e; cases e
theorem Cols.trk {H : Hp} {c : Addr} {ps : List Addr} {cols : List (List Nat)} (k : Cols H c ps cols) (x : Addr) (hx : x = c ∨ x ∈ ps) : H x ≠ none := fun e => by
  rcases hx with rfl | hx
  · rw [k.1] at e; cases e
  · obtain ⟨xs, e2⟩ := k.at hx
    rw [e2] at e; cases e
theorem HeapAt.fr {ms : List Addr} {H H' : Hp} {h c : Addr} {ps : List Addr} {cols : List (List Nat)} (f : Fr ms H H') (nh : h ∉ ms) (nc : c ∉ ms) (np : ∀ p ∈ ps, p ∉ ms) (k : HeapAt K H h c ps cols) : HeapAt K H' h c ps cols := by
  obtain ⟨⟨C, dx, h1, h2⟩, h3⟩ := k
  exact ⟨⟨C, dx, f _ _ h1 nh, h2⟩, h3.fr f nc np⟩
theorem HeapAt.put {H : Hp} {h c p : Addr} {ps : List Addr} {cols : List (List Nat)} {k : Nat} {ys : List Nat} (q : HeapAt K H h c ps cols) (hp : ps[k]? = some p) : HeapAt K (upd H p (.lst ((natI ys).map V.int))) h c ps (cols.set k ys) := by
  have hn := q.hn
  obtain ⟨⟨C, dx, h1, h2⟩, h3⟩ := q
  refine ⟨⟨C, dx, ?_, h2⟩, h3.put hp⟩
  rw [upd_ne (fun z => hn (by rw [z]; exact List.mem_of_getElem? hp)), List.length_set]
  exact h1
def sp_Heap__init (K : PySem.W.Frag) : Sp := fun vs H Q _ => ∃ (s C dx : Addr) (n : Nat), vs = [.ref s, .int (n : Int)] ∧ H s = some (.ins C dx []) ∧ IsC K "Heap" C ∧ n ≤ 1000 ∧ ∀ (c : Addr) (ps : List Addr) (H1 : Hp), H c = none → (∀ p ∈ ps, H p = none) → HeapAt K H1 s c ps (List.replicate n []) → Fr [s] H H1 → Q .non H1
theorem ok_Heap__init (T : Top K mg) : FnOk P w K mg base CX0 1 T.a_Heap__init T.d_Heap__init ["self", "many"] (sp_Heap__init K) := by
  refine T.f_Heap__init.ok sc_Heap__init (fun vs H Q E h => ?_) (fun cdv A outer s H vs Q E hr h => ?_)
  · obtain ⟨s, C, dx, n, rfl, _⟩ := h
    rfl
  obtain ⟨s, C, dx, n, rfl, h⟩ := h
  refine ⟨_, (pss_cons (ps_fld (pv 0) (pv 1) rfl)
      (pss_one (ps_fld (pv 0) (pe_lc (own := [("k", 2)]) (g := gName 2) (tt := tYes) (by rfl) sc_Heap__init.nd (pi_range1 (by rfl) T.z_range (pa_cons (pv 1) pa_nil)) (blkOk_by (N := ["self", "many", "k"]) (sc := defScope s_Heap__init) (by decide +kernel)) (fun _ _ _ _ _ => (pg_name (i := 2) sc_Heap__init.nd rfl (.inl rfl))) (fun _ _ _ _ _ => pts_nil) (fun _ _ _ _ _ => (pe_lst pa_nil))) rfl))), ?_⟩
  try dsimp only [cxOf, Cx.nox, Cx.wish]
  simp only [L2.start, List.map_cons, List.map_nil, List.length_cons, List.length_nil, Nat.reduceAdd, Nat.reduceSub, List.replicate_succ, List.replicate_zero, List.cons_append, List.nil_append]
  obtain ⟨hs, hC, hn, h⟩ := h
  obtain rfl := hC.one T.nc_Heap
  have c1 := T.cl_Heap
  have c2 := T.n_Heap_many
  have c3 := T.n_Heap_columns
  walk_at "ws"
  refine lc_empties (by omega) (fun x => rfl) fun c ps H1 hpl nc np s1 hc => ?_
  rw [show ((n : Int)).toNat = n by omega] at hc hpl
  have es := s1 _ _ (upd_same (H := H) (a := s))
  have cs : c ≠ s := fun z => by rw [z, upd_same] at nc; cases nc
  have nc0 : H c = none := by rwa [upd_ne cs] at nc
  have ps0 : ∀ p ∈ ps, p ≠ s ∧ H p = none := fun p m => by
    have e := np p m
    have ne : p ≠ s := fun z => by rw [z, upd_same] at e; cases e
    exact ⟨ne, by rwa [upd_ne ne] at e⟩
  walk_at "ws"
  refine h c ps _ nc0 (fun p m => (ps0 p m).2) ⟨⟨T.c_Heap, dx, ?_, hC⟩, hc.fr (ms := [s]) (Fr.put (List.mem_cons_self ..)) (by simpa using cs) (fun p m => by simpa using (ps0 p m).1)⟩ ?_
  · rw [upd_same, List.length_replicate]
    rfl
  · exact ((Fr.put (List.mem_cons_self ..)).trans (Fr.of s1)).trans (Fr.put (List.mem_cons_self ..))
def sp_Heap_put (K : PySem.W.Frag) : Sp := fun vs H Q _ => ∃ (s c : Addr) (ps : List Addr) (cols : List (List Nat)) (k w : Nat), vs = [.ref s, .int (k : Int), .int (w : Int)] ∧ HeapAt K H s c ps cols ∧ (∀ xs ∈ cols, xs.length ≤ 700000) ∧ ∀ H', HeapAt K H' s c ps (addC cols k w) → Fr ps H H' → Q .non H'
theorem ok_Heap_put (T : Top K mg) : FnOk P w K mg base CX0 1 T.a_Heap_put T.d_Heap_put ["self", "column", "wire"] (sp_Heap_put K) := by
  refine T.f_Heap_put.ok sc_Heap_put (fun vs H Q E h => ?_) (fun cdv A outer s H vs Q E hr h => ?_)
  · obtain ⟨s, c, ps, cols, k, w, rfl, _⟩ := h
    rfl
  obtain ⟨s, c, ps, cols, k, w, rfl, h⟩ := h
  refine ⟨_, (pss_one (ps_if (pt_cmpR op_lt (pv 1) (pe_fld (pv 0) rfl) (nomark _)) (pss_one (ps_expr (pe_bm PySem.F.plainAttrs_list PySem.F.slot_list_append PySem.F.type_list_append mt_append (pe_ix (ix_listK K) (pe_fld (pv 0) rfl) (pv 1) (fun _ _ => rfl)) (pa_cons (pv 2) pa_nil)))) pss_nil)), ?_⟩
  try dsimp only [cxOf, Cx.nox, Cx.wish]
  simp only [L2.start, List.map_cons, List.map_nil, List.length_cons, List.length_nil, Nat.reduceAdd, Nat.reduceSub, List.replicate_succ, List.replicate_zero, List.cons_append, List.nil_append]
  obtain ⟨ha, hsz, h⟩ := h
  obtain ⟨⟨C, dx, hs, hC⟩, hc⟩ := id ha
  obtain rfl := hC.one T.nc_Heap
  have c1 := T.cl_Heap
  have c2 := T.n_Heap_many
  have c3 := T.n_Heap_columns
  have hc1 := hc.1
  walk_at "ws"
  · obtain ⟨p, xs, h1, h2, h3, h4⟩ := hc.ix (k := k) (by omega)
    have := hsz xs (List.mem_of_getElem? h2)
    have hz : ((natI xs).map V.int).length ≤ 700000 := by rw [List.length_map, natI_len]; exact this
    refine w_ixL (SqL.of hc1) h3 ?_
    walk_at "ws"
    rw [nat_snoc]
    refine h _ ?_ (Fr.put (List.mem_of_getElem? h1))
    rw [addC_set h2]
    exact ha.put h1
  · refine h _ ?_ Fr.refl
    rw [addC_no (by omega)]
    exact ha
def sp_Heap_heights (K : PySem.W.Frag) : Sp := fun vs H Q _ => ∃ (s c : Addr) (ps : List Addr) (cols : List (List Nat)), vs = [.ref s] ∧ HeapAt K H s c ps cols ∧ cols.length ≤ 1000 ∧ ∀ p H', H p = none → Same H H' → NatsAt H' p (lens cols) → Q (.ref p) H'
theorem ok_Heap_heights (T : Top K mg) : FnOk P w K mg base CX0 1 T.a_Heap_heights T.d_Heap_heights ["self"] (sp_Heap_heights K) := by
  refine T.f_Heap_heights.ok sc_Heap_heights (fun vs H Q E h => ?_) (fun cdv A outer s H vs Q E hr h => ?_)
  · obtain ⟨s, c, ps, cols, rfl, _⟩ := h
    rfl
  obtain ⟨s, c, ps, cols, rfl, h⟩ := h
  refine ⟨_, (pss_one (ps_ret (pe_lc (own := [("dots", 1)]) (g := gName 1) (tt := tYes) (by rfl) sc_Heap_heights.nd (pi_list (pe_fld (pv 0) rfl)) (blkOk_by (N := ["self", "dots"]) (sc := defScope s_Heap_heights) (by decide +kernel)) (fun _ _ _ _ _ => (pg_name (i := 1) sc_Heap_heights.nd rfl (.inl rfl))) (fun _ _ _ _ _ => pts_nil) (fun _ _ _ _ _ => (pe_callB (c_lenK K) (by rfl) T.z_len PySem.boot_len (pa_cons (pv 1) pa_nil)))))), ?_⟩
  try dsimp only [cxOf, Cx.nox, Cx.wish]
  simp only [L2.start, List.map_cons, List.map_nil, List.length_cons, List.length_nil, Nat.reduceAdd, Nat.reduceSub, List.replicate_succ, List.replicate_zero, List.cons_append, List.nil_append]
  obtain ⟨⟨⟨C, dx, hs, hC⟩, hc⟩, hl, h⟩ := h
  obtain rfl := hC.one T.nc_Heap
  have c1 := T.cl_Heap
  have c3 := T.n_Heap_columns
  have hc1 := hc.1
  have hpl := hc.2.1.1
  walk_at "ws"
  refine lc_l (ps.map V.ref) ((natI (lens cols)).map V.int) (by rw [List.length_map, List.length_map, natI_len, lens, List.length_map, hpl]) (SqL.of hc1) (by rw [List.length_map]; omega) (fun x => rfl) (fun j x y G Q' hx hy s1 k => ?_) (fun p G n1 s1 e1 => ?_)
  · obtain ⟨p, hp, rfl⟩ := get_map hx
    obtain ⟨xs, hxs, e⟩ := hc.2.1.get hp
    have e' := s1 _ _ (show H p = some (.lst ((natI xs).map V.int)) from e)
    rw [natI_map, lens, List.getElem?_map, List.getElem?_map, hxs] at hy
    cases hy
    walk_at "ws"
    rw [List.length_map, natI_len]
    exact k
  exact h p G n1 s1 e1
def sp_Heap_column (K : PySem.W.Frag) : Sp := fun vs H Q _ => ∃ (s c : Addr) (ps : List Addr) (cols : List (List Nat)) (k : Nat) (xs : List Nat), vs = [.ref s, .int (k : Int)] ∧ HeapAt K H s c ps cols ∧ cols[k]? = some xs ∧ ∀ p H', H p = none → Same H H' → NatsAt H' p xs → Q (.ref p) H'
theorem ok_Heap_column (T : Top K mg) : FnOk P w K mg base CX0 1 T.a_Heap_column T.d_Heap_column ["self", "k"] (sp_Heap_column K) := by
  refine T.f_Heap_column.ok sc_Heap_column (fun vs H Q E h => ?_) (fun cdv A outer s H vs Q E hr h => ?_)
  · obtain ⟨s, c, ps, cols, k, xs, rfl, _⟩ := h
    rfl
  obtain ⟨s, c, ps, cols, k, xs, rfl, h⟩ := h
  refine ⟨_, (pss_one (ps_ret (pe_callTy (c_listK K) (by rfl) T.z_list (by decide +kernel) (pa_cons (pe_ix (ix_listK K) (pe_fld (pv 0) rfl) (pv 1) (fun _ _ => rfl)) pa_nil)))), ?_⟩
  try dsimp only [cxOf, Cx.nox, Cx.wish]
  simp only [L2.start, List.map_cons, List.map_nil, List.length_cons, List.length_nil, Nat.reduceAdd, Nat.reduceSub, List.replicate_succ, List.replicate_zero, List.cons_append, List.nil_append]
  obtain ⟨⟨⟨C, dx, hs, hC⟩, hc⟩, hk, h⟩ := h
  obtain rfl := hC.one T.nc_Heap
  have c1 := T.cl_Heap
  have c3 := T.n_Heap_columns
  have hc1 := hc.1
  have hkl := (List.getElem?_eq_some_iff.mp hk).1
  obtain ⟨p, ys, h1, h2, h3, h4⟩ := hc.ix hkl
  rw [hk] at h2
  cases h2
  walk_at "ws"
  refine w_ixL (SqL.of hc1) h3 ?_
  walk_at "ws"
  exact h _ _ (by assumption) (by assumption) (by assumption)

/-! rows put on a sheet -/
def Ext (ks ks' : List Row) : Prop := ∃ t, ks' = ks ++ t
theorem Ext.refl (ks : List Row) : Ext ks ks := ⟨[], (List.append_nil ks).symm⟩
theorem Ext.trans {a b c : List Row} (h : Ext a b) (k : Ext b c) : Ext a c := by
  obtain ⟨t, rfl⟩ := h
  obtain ⟨u, rfl⟩ := k
  exact ⟨t ++ u, List.append_assoc ..⟩
theorem Ext.app (a t : List Row) : Ext a (a ++ t) := ⟨t, rfl⟩
theorem Ext.get {a b : List Row} (h : Ext a b) {i : Nat} {r : Row} (e : a[i]? = some r) : b[i]? = some r := by
  obtain ⟨t, rfl⟩ := h
  rw [List.getElem?_append_left (List.getElem?_eq_some_iff.mp e).1]
  exact e
theorem Ext.len {a b : List Row} (h : Ext a b) : a.length ≤ b.length := by
  obtain ⟨t, rfl⟩ := h
  rw [List.length_append]
  omega
theorem Ext.bit {a b : List Row} (h : Ext a b) (ws : List (Str × Int)) {w : Nat} (hw : w < a.length) : bit ws b w = bit ws a w := by
  obtain ⟨t, rfl⟩ := h
  exact run_grow (gateI ws) hw
theorem Ext.dep {a b : List Row} (h : Ext a b) {w : Nat} (hw : w < a.length) : dep b w = dep a w := by
  obtain ⟨t, rfl⟩ := h
  exact run_grow deepI hw
theorem sheet_ne {H : Hp} {s r : Addr} {xs : List V} (hs : SheetAt K H s r) (hr : H r = some (.lst xs)) : s ≠ r := by
  obtain ⟨C, dx, h1, _⟩ := hs
  exact ne_of h1 hr (by intro z; cases z)
theorem SheetAt.same {H H' : Hp} {s r : Addr} (sm : Same H H') (hs : SheetAt K H s r) : SheetAt K H' s r := by
  obtain ⟨C, dx, h1, h2⟩ := hs
  exact ⟨C, dx, sm _ _ h1, h2⟩
theorem SheetAt.fr {ms : List Addr} {H H' : Hp} {s r : Addr} (f : Fr ms H H') (n : s ∉ ms) (hs : SheetAt K H s r) : SheetAt K H' s r := by
  obtain ⟨C, dx, h1, h2⟩ := hs
  exact ⟨C, dx, f _ _ h1 n, h2⟩
theorem RowsM.fr {ms : List Addr} {H H' : Hp} {a : Addr} {rs : List Row} (f : Fr ms H H') (n : a ∉ ms) (np : ∀ p r, p ∈ ms → RowAt H p r → False) (h : RowsM H a rs) : RowsM H' a rs := by
  obtain ⟨ps, h1, h2⟩ := h
  exact ⟨ps, f _ _ h1 n, h2.mono fun p r e => f _ _ e fun z => np p r z e⟩
theorem use_add {H : Hp} {s r p : Addr} {rs : List Row} {x : Row} {Q : VK} {E : XK} (hs : SheetAt K H s r) (hM : RowsM H r rs) (hp : RowAt H p x) (hl : rs.length ≤ 900000)
    (q : ∀ H', SheetAt K H' s r → RowsM H' r (rs ++ [x]) → Fr [r] H H' → Q (.int (rs.length : Int)) H') : sp_Sheet_add K (.ref s :: ([.ref p] ++ [])) H Q E := by
  obtain ⟨ps, h1, h2⟩ := hM
  have hl2 : (ps.map V.ref).length = rs.length := by rw [List.length_map, h2.1]
  have ne := sheet_ne hs h1
  refine ⟨s, r, _, _, rfl, hs, h1, by omega, ?_⟩
  rw [hl2]
  exact q _ (hs.fr (ms := [r]) (Fr.put (List.mem_cons_self ..)) (by simpa using ne)) (RowsM.push h1 h2 hp) (Fr.put (List.mem_cons_self ..))
theorem use_now {H : Hp} {s r : Addr} {rs : List Row} {Q : VK} {E : XK} (hs : SheetAt K H s r) (hM : RowsM H r rs) (hl : rs.length ≤ 900000)
    (q : ∀ p H', H p = none → Same H H' → RowsM H' p rs → Q (.ref p) H') : sp_Sheet_rows_now K (.ref s :: ([] ++ [])) H Q E := by
  obtain ⟨ps, h1, h2⟩ := hM
  refine ⟨s, r, _, rfl, hs, h1, by rw [List.length_map, h2.1]; omega, fun p H' n s e => q p H' n s ⟨ps, e, h2.mono fun _ _ e => s _ _ e⟩⟩
/-! pairs of wires joined -/
def PairAt (H : Hp) (p : Addr) (m q : Nat) : Prop := H p = some (.tup [.int (m : Int), .int (q : Int)])

/-! a heap and rows of the law, alike and apart -/
theorem lens_addC (cols : List (List Nat)) {m : Nat} (h : ∀ xs ∈ cols, xs.length ≤ m) (k w : Nat) : ∀ xs ∈ addC cols k w, xs.length ≤ m + 1 := by
  intro xs hx
  unfold addC at hx
  cases e : cols[k]? with
  | some ys =>
    rw [e] at hx
    rcases List.mem_or_eq_of_mem_set hx with z | z
    · have := h xs z; omega
    · rw [z, List.length_append, List.length_singleton]
      have := h ys (List.mem_of_getElem? e)
      omega
  | none =>
    rw [e] at hx
    have := h xs hx
    omega
/-- a heap and rows of the law, alike and apart -/
structure Both (K : PySem.W.Frag) (H : Hp) (s c r : Addr) (ps qs : List Addr) (cols : List (List Nat)) : Prop where
  heap : HeapAt K H s c ps cols
  rows : Cols H r qs cols
  pq : ∀ p ∈ ps, p ∉ qs
  cq : c ∉ qs
  rp : r ∉ ps
theorem Both.sq {H : Hp} {s c r : Addr} {ps qs : List Addr} {cols : List (List Nat)} (b : Both K H s c r ps qs cols) : s ∉ qs := fun m => by
  obtain ⟨⟨C, dx, h1, h2⟩, h3⟩ := b.heap
  obtain ⟨xs, e⟩ := b.rows.at m
  rw [h1] at e
  cases e
theorem Both.same {H H' : Hp} {s c r : Addr} {ps qs : List Addr} {cols : List (List Nat)} (sm : Same H H') (b : Both K H s c r ps qs cols) : Both K H' s c r ps qs cols := ⟨b.heap.same sm, b.rows.same sm, b.pq, b.cq, b.rp⟩
theorem Both.fr {ms : List Addr} {H H' : Hp} {s c r : Addr} {ps qs : List Addr} {cols : List (List Nat)} (f : Fr ms H H') (n : ∀ x, (x = s ∨ x = c ∨ x = r ∨ x ∈ ps ∨ x ∈ qs) → x ∉ ms) (b : Both K H s c r ps qs cols) : Both K H' s c r ps qs cols :=
  ⟨b.heap.fr f (n _ (.inl rfl)) (n _ (.inr (.inl rfl))) (fun p m => n p (.inr (.inr (.inr (.inl m))))), b.rows.fr f (n _ (.inr (.inr (.inl rfl)))) (fun p m => n p (.inr (.inr (.inr (.inr m))))), b.pq, b.cq, b.rp⟩
/-- two of them, apart -/
def foot (s c r : Addr) (ps qs : List Addr) (x : Addr) : Prop := x = s ∨ x = c ∨ x = r ∨ x ∈ ps ∨ x ∈ qs

/-! bits by going through rows -/
theorem or_max {x y : Int} (hx : is01 x) (hy : is01 y) : (if y > x then y else x) = bopI .or x y := by
  rcases hx with rfl | rfl <;> rcases hy with rfl | rfl <;> decide
def sp_law_bits (K : PySem.W.Frag) : Sp := fun vs H Q _ => ∃ (a d : Addr) (rs : List Row) (ws : List (Str × Int)) (N : Str → Prop), vs = [.ref a, .ref d] ∧ RowsL K H a rs ∧ H d = some (.dK (wkv ws)) ∧
  RowsOk N rs ∧ NoLats rs ∧ Has N ws ∧ rs.length ≤ 900000 ∧ ∀ p H', H p = none → Same H H' → H' p = some (.lst ((toldL ws rs).map V.int)) → Q (.ref p) H'
theorem ok_law_bits (T : Top K mg) : FnOk P w K mg base CX0 1 T.a_law_bits T.d_law_bits ["_law_rows", "_law_words"] (sp_law_bits K) := by
  refine T.f_law_bits.ok sc_law_bits (fun vs H Q E h => ?_) (fun cdv A outer s H vs Q E hr h => ?_)
  · obtain ⟨a, d, rs, ws, N, rfl, _⟩ := h
    rfl
  obtain ⟨a, d, rs, ws, N, rfl, h⟩ := h
  refine ⟨_, (pss_cons (ps_set (i := 2) sc_law_bits.nd rfl (.inl rfl) (pe_lst pa_nil))
      (pss_cons (ps_for PassesOwn.never rfl (pi_list (pv 0)) (pg_name (i := 3) sc_law_bits.nd rfl (.inl rfl))
      (pss_one (ps_if (pt_cmpR op_eq (pe_ix (ix_tupK K) (pv 3) pe_int (fun _ _ => rfl)) pe_str (nomark _)) (pss_one (ps_expr (pe_bm PySem.F.plainAttrs_list PySem.F.slot_list_append PySem.F.type_list_append mt_append (pv 2) (pa_cons (pe_ix (ix_tupK K) (pv 3) pe_int (fun _ _ => rfl)) pa_nil)))) (pss_one (ps_if (pt_cmpR op_eq (pe_ix (ix_tupK K) (pv 3) pe_int (fun _ _ => rfl)) pe_str (nomark _)) (pss_one (ps_expr (pe_bm PySem.F.plainAttrs_list PySem.F.slot_list_append PySem.F.type_list_append mt_append (pv 2) (pa_cons (pe_op op_mod (pe_op op_divP (pe_dget (hu_of hr) (pv 1) (pe_ix (ix_tupK K) (pv 3) pe_int (fun _ _ => rfl)) (fun _ _ => rfl)) (pe_op op_shlK pe_int (pe_ix (ix_tupK K) (pv 3) pe_int (fun _ _ => rfl)))) pe_int) pa_nil)))) (pss_one (ps_if (pt_cmpR op_eq (pe_ix (ix_tupK K) (pv 3) pe_int (fun _ _ => rfl)) pe_str (nomark _)) (pss_one (ps_expr (pe_bm PySem.F.plainAttrs_list PySem.F.slot_list_append PySem.F.type_list_append mt_append (pv 2) (pa_cons (pe_op op_sub pe_int (pe_ix (ix_listK K) (pv 2) (pe_ix (ix_tupK K) (pv 3) pe_int (fun _ _ => rfl)) (fun _ _ => rfl))) pa_nil)))) (pss_one (ps_if (pt_cmpR op_eq (pe_ix (ix_tupK K) (pv 3) pe_int (fun _ _ => rfl)) pe_str (nomark _)) (pss_one (ps_expr (pe_bm PySem.F.plainAttrs_list PySem.F.slot_list_append PySem.F.type_list_append mt_append (pv 2) (pa_cons (pe_op op_mulI (pe_ix (ix_listK K) (pv 2) (pe_ix (ix_tupK K) (pv 3) pe_int (fun _ _ => rfl)) (fun _ _ => rfl)) (pe_ix (ix_listK K) (pv 2) (pe_ix (ix_tupK K) (pv 3) pe_int (fun _ _ => rfl)) (fun _ _ => rfl))) pa_nil)))) (pss_one (ps_if (pt_cmpR op_eq (pe_ix (ix_tupK K) (pv 3) pe_int (fun _ _ => rfl)) pe_str (nomark _)) (pss_one (ps_expr (pe_bm PySem.F.plainAttrs_list PySem.F.slot_list_append PySem.F.type_list_append mt_append (pv 2) (pa_cons (pe_callB (c_max2 rfl) (by rfl) T.z_max (by decide +kernel) (pa_cons (pe_ix (ix_listK K) (pv 2) (pe_ix (ix_tupK K) (pv 3) pe_int (fun _ _ => rfl)) (fun _ _ => rfl)) (pa_cons (pe_ix (ix_listK K) (pv 2) (pe_ix (ix_tupK K) (pv 3) pe_int (fun _ _ => rfl)) (fun _ _ => rfl)) pa_nil))) pa_nil)))) (pss_one (ps_expr (pe_bm PySem.F.plainAttrs_list PySem.F.slot_list_append PySem.F.type_list_append mt_append (pv 2) (pa_cons (pe_op op_mod (pe_op op_add (pe_ix (ix_listK K) (pv 2) (pe_ix (ix_tupK K) (pv 3) pe_int (fun _ _ => rfl)) (fun _ _ => rfl)) (pe_ix (ix_listK K) (pv 2) (pe_ix (ix_tupK K) (pv 3) pe_int (fun _ _ => rfl)) (fun _ _ => rfl))) pe_int) pa_nil)))))))))))))))
      (pss_one (ps_ret (pv 2))))), ?_⟩
  try dsimp only [cxOf, Cx.nox, Cx.wish]
  simp only [L2.start, List.map_cons, List.map_nil, List.length_cons, List.length_nil, Nat.reduceAdd, Nat.reduceSub, List.replicate_succ, List.replicate_zero, List.cons_append, List.nil_append]
  obtain ⟨⟨ps, hS, hA⟩, hd, ok, nl, has, hlen, h⟩ := h
  have hpl := hA.1
  walk_at "ws"
  rename_i o H1 n1 s1 e1
  refine for_l (ps.map V.ref) (fun i σ' H' => ∃ y, σ' = [some (.ref a), some (.ref d), some (.ref o), y] ∧ Same H H' ∧ H' o = some (.lst ((toldL ws (rs.take i)).map V.int))) ⟨_, rfl, s1, e1⟩ (fun i σ' H' _ q => ?_) (fun i x σ' H' hx q => ?_) (fun σ' H' q => ?_)
  · obtain ⟨y, rfl, sm, e⟩ := q
    exact sm.seq hS
  · obtain ⟨y, rfl, sm, e⟩ := q
    obtain ⟨p, hp, rfl⟩ := get_map hx
    obtain ⟨r, hr', hpr⟩ := hA.get hp
    have hi := (List.getElem?_eq_some_iff.mp hr').1
    have hl : (toldL ws (rs.take i)).length = i := by rw [toldL_len, List.length_take]; omega
    have okr := ok i r hr'
    have nlr := nl r (List.mem_of_getElem? hr')
    have h01 := toldL_01 ws ok i
    have fin : ∀ v : Int, v = gateI ws (toldL ws (rs.take i)) r → ∃ y : Option V, [some (V.ref a), some (.ref d), some (.ref o), some (.ref p)] = [some (.ref a), some (.ref d), some (.ref o), y] ∧ Same H (upd H' o (.lst ((toldL ws (rs.take i)).map V.int ++ [.int v]))) ∧ (upd H' o (.lst ((toldL ws (rs.take i)).map V.int ++ [.int v]))) o = some (.lst ((toldL ws (rs.take (i + 1))).map V.int)) := fun v hv => by
      refine ⟨_, rfl, same_mut sm n1, ?_⟩
      rw [upd_same, take_snoc hr', toldL_snoc, List.map_append, hv]
      rfl
    have hz : ((toldL ws (rs.take i)).map V.int).length ≤ 900000 := by rw [List.length_map]; omega
    have hpr' : H' p = some (.tup (rowV r)) := sm _ _ hpr
    have hd' := sm _ _ hd
    generalize hbs : toldL ws (rs.take i) = bs at *
    cases r with
    | fix b =>
      walk_at "ws"
      exact fin b rfl
    | inn n k =>
      obtain ⟨v, hv⟩ := has n okr.1
      have hk : k < 64 := okr.2
      have hv2 : valV (wkv ws) (Sum.inr n) = some (.int v) := by rw [valV_wkv, hv]; rfl
      walk_at "ws"
      refine fin _ ?_
      show v / 2 ^ k % 2 = (lookW ws n).getD 0 / 2 ^ k % 2
      rw [hv]
      rfl
    | inv u =>
      have hu : u < i := okr
      walk_at "ws"
      refine w_ixL (SqL.of e) (bit_get (by omega)) ?_
      walk_at "ws"
      exact fin _ rfl
    | bin c u v =>
      have hu := okr.1
      have hv := okr.2
      have h1 := all01_get h01 u
      have h2 := all01_get h01 v
      have e1' := bit_get (bs := bs) (a := u) (by omega)
      have e2' := bit_get (bs := bs) (a := v) (by omega)
      cases c with
      | and =>
        walk_at "ws"
        refine w_ixL (SqL.of e) e1' ?_
        walk_at "ws"
        refine w_ixL (SqL.of e) e2' ?_
        walk_at "ws"
        refine w_I (mul_sm (by rcases h1 with z | z <;> rw [z] <;> decide)) ?_
        walk_at "ws"
        exact fin _ rfl
      | or =>
        walk_at "ws"
        refine w_ixL (SqL.of e) e1' ?_
        walk_at "ws"
        refine w_ixL (SqL.of e) e2' ?_
        walk_at "ws"
        exact fin _ (or_max h1 h2)
      | xor =>
        walk_at "ws"
        refine w_ixL (SqL.of e) e1' ?_
        walk_at "ws"
        refine w_ixL (SqL.of e) e2' ?_
        walk_at "ws"
        exact fin _ rfl
    | lat u => exact nlr.elim
  · obtain ⟨y, rfl, sm, e⟩ := q
    rw [List.length_map, hpl, List.take_of_length_le (Nat.le_refl _)] at e
    walk_at "ws"
    exact h o H' n1 sm e

/-! rows that are good -/
def isGate : Row → Prop
  | .inv _ => True
  | .bin _ _ _ => True
  | _ => False
def sp_law_gate (K : PySem.W.Frag) : Sp := fun vs H Q _ => ∃ (p : Addr) (r : Row) (i : Nat) (N : Str → Prop), vs = [.ref p, .int (i : Int)] ∧ RowAt H p r ∧ isGate r ∧ RowOk N i r ∧ ∀ H', Same H H' → Q (.bl true) H'
theorem ok_law_gate (T : Top K mg) : FnOk P w K mg base CX0 2 T.a_law_gate T.d_law_gate ["_law_row", "_law_at"] (sp_law_gate K) := by
  refine T.f_law_gate.ok sc_law_gate (fun vs H Q E h => ?_) (fun cdv A outer s H vs Q E hr h => ?_)
  · obtain ⟨p, r, i, N, rfl, _⟩ := h
    rfl
  obtain ⟨p, r, i, N, rfl, h⟩ := h
  refine ⟨_, (pss_cons (ps_set (i := 2) sc_law_gate.nd rfl (.inl rfl) (pe_slice sl_tup (pv 0) (po_some pe_int) po_none))
      (pss_cons (ps_if (pt_cmpR op_eq (pe_ix (ix_tupK K) (pv 0) pe_int (fun _ _ => rfl)) pe_str (nomark _)) (pss_one (ps_set (i := 3) sc_law_gate.nd rfl (.inl rfl) (pe_cmpR op_eq (pe_callB (c_lenK K) (by rfl) T.z_len PySem.boot_len (pa_cons (pv 2) pa_nil)) pe_int (nomark _)))) (pss_one (ps_set (i := 3) sc_law_gate.nd rfl (.inl rfl) (pe_and (pe_cmpR (op_inK K) (pe_ix (ix_tupK K) (pv 0) pe_int (fun _ _ => rfl)) (pe_tup (pa_cons pe_str (pa_cons pe_str (pa_cons pe_str pa_nil)))) (by rfl)) (pe_one (pe_cmpR op_eq (pe_callB (c_lenK K) (by rfl) T.z_len PySem.boot_len (pa_cons (pv 2) pa_nil)) pe_int (nomark _)))))))
      (pss_cons (ps_for PassesOwn.never rfl (pi_tup (pv 2)) (pg_name (i := 4) sc_law_gate.nd rfl (.inl rfl))
      (pss_one (ps_set (i := 3) sc_law_gate.nd rfl (.inl rfl) (pe_and (pv 3) (pe_and (pe_call (ok_law_whole T) (hr.mono (by decide)) (by rfl) T.g_law_whole T.f_law_whole.kp T.b_law_whole .nil pass0 (pa_cons (pv 4) pa_nil)) (pe_and (pe_cmpR op_le pe_int (pv 4) (nomark _)) (pe_one (pe_cmpR op_lt (pv 4) (pv 1) (nomark _)))))))))
      (pss_one (ps_ret (pv 3)))))), ?_⟩
  try dsimp only [cxOf, Cx.nox, Cx.wish]
  simp only [L2.start, List.map_cons, List.map_nil, List.length_cons, List.length_nil, Nat.reduceAdd, Nat.reduceSub, List.replicate_succ, List.replicate_zero, List.cons_append, List.nil_append]
  obtain ⟨hp, hg, ok, h⟩ := h
  unfold RowAt at hp
  have e2 : decide (V.int 2 = V.int 2) = true := decide_eq_true rfl
  have e1 : decide (V.int 1 = V.int 1) = true := decide_eq_true rfl
  have loop : ∀ (q : Addr) (xs : List Int) (H1 : Hp) (b : Bool) (y3 : Option V), Same H H1 → SqT K H1 q (xs.map V.int) → (∀ x ∈ xs, 0 ≤ x ∧ x < (i : Int)) → b = true → ∀ (t : TS) (D : Ends), (∀ (j : Nat) (x : Int) (b : Bool) (G : Hp), xs[j]? = some x → b = true → Same H1 G → ∀ D2 : Ends, (∀ b', b' = true → D2.nx [some (.ref p), some (.int (i : Int)), some (.ref q), some (.bl b'), some (.int x)] G) → t D2 [some (.ref p), some (.int (i : Int)), some (.ref q), some (.bl b), some (.int x)] G) →
      (∀ (b : Bool) (y4 : Option V), b = true → D.nx [some (.ref p), some (.int (i : Int)), some (.ref q), some (.bl b), y4] H1) → ForB (Itt K q) (gName 4) t D [some (.ref p), some (.int (i : Int)), some (.ref q), some (.bl b), y3] H1 := fun q xs H1 b y3 s1 hq hx hb t D ht hD => by
    refine for_t (xs.map V.int) (fun j σ' G => ∃ (b : Bool) (y4 : Option V), σ' = [some (.ref p), some (.int (i : Int)), some (.ref q), some (.bl b), y4] ∧ G = H1 ∧ b = true) ⟨b, _, rfl, rfl, hb⟩ (fun j σ' G _ k => ?_) (fun j x σ' G hx2 k => ?_) (fun σ' G k => ?_)
    · obtain ⟨b, y4, rfl, rfl, _⟩ := k
      exact hq
    · obtain ⟨b, y4, rfl, rfl, hb⟩ := k
      obtain ⟨z, hz, rfl⟩ := get_map hx2
      exact ht j z b G hz hb (Same.refl _) _ (fun b' hb' => ⟨b', _, rfl, rfl, hb'⟩)
    · obtain ⟨b, y4, rfl, rfl, hb⟩ := k
      exact hD b y4 hb
  have turn : ∀ (x : Int), 0 ≤ x → x < (i : Int) → decide (x < (i : Int)) = true := fun x h0 h1 => decide_eq_true h1
  cases r with
  | inv u =>
    have hu : u < i := ok
    walk_at "ws"
    rename_i q H1 n1 s1 e1q
    refine loop q [(u : Int)] H1 _ _ s1 (SqT.of e1q) (fun x m => by rw [List.mem_singleton.mp m]; omega) e1 _ _ (fun j x b G hx hb sG D2 k => ?_) (fun b y4 hb => ?_)
    · have hx0 : x = (u : Int) := List.mem_singleton.mp (List.mem_of_getElem? hx)
      subst hb
      walk_at "ws"
      exact k _ (decide_eq_true (by omega))
    · subst hb
      walk_at "ws"
      exact h _ s1
  | bin o u v =>
    have hu := ok.1
    have hv := ok.2
    cases o <;>
    · walk_at "ws"
      rename_i q H1 n1 s1 e1q p2 H2 n2 s2 e2q
      refine loop q [(u : Int), (v : Int)] H2 _ _ (s1.trans s2) (SqT.of (s2 _ _ e1q)) (fun x m => by rcases List.mem_cons.mp m with z | z; rw [z]; omega; rw [List.mem_singleton.mp z]; omega) e2 _ _ (fun j x b G hx hb sG D2 k => ?_) (fun b y4 hb => ?_)
      · have hx0 : 0 ≤ x ∧ x < (i : Int) := by
          rcases List.mem_cons.mp (List.mem_of_getElem? hx) with z | z
          · rw [z]; omega
          · rw [List.mem_singleton.mp z]; omega
        subst hb
        walk_at "ws"
        exact k _ (decide_eq_true (by omega))
      · subst hb
        walk_at "ws"
        exact h _ (s1.trans s2)
  | _ => exact hg.elim
def sp_law_good (K : PySem.W.Frag) : Sp := fun vs H Q _ => ∃ (a b : Addr) (rs : List Row) (nm : List Str), vs = [.ref a, .ref b] ∧ RowsM H a rs ∧ SqL K H b (nm.map V.str) ∧ RowsOk (· ∈ nm) rs ∧ NoLats rs ∧ rs.length ≤ 900000 ∧ ∀ H', Same H H' → Q (.bl true) H'
theorem in_names {n : Str} {nm : List Str} (h : n ∈ nm) : inV (.str n) (nm.map V.str) = true := by
  unfold inV
  refine List.any_eq_true.mpr ⟨.str n, List.mem_map.mpr ⟨n, h, rfl⟩, ?_⟩
  show (n == n) = true
  exact beq_self_eq_true n
theorem flat_names (nm : List Str) : (nm.map V.str).all flatV = true := by
  rw [List.all_eq_true]
  intro x hx
  obtain ⟨n, _, rfl⟩ := List.mem_map.mp hx
  rfl
theorem ok_law_good (T : Top K mg) : FnOk P w K mg base CX0 3 T.a_law_good T.d_law_good ["_law_rows", "_law_names"] (sp_law_good K) := by
  refine T.f_law_good.ok sc_law_good (fun vs H Q E h => ?_) (fun cdv A outer s H vs Q E hr h => ?_)
  · obtain ⟨a, b, rs, nm, rfl, _⟩ := h
    rfl
  obtain ⟨a, b, rs, nm, rfl, h⟩ := h
  refine ⟨_, (pss_cons (ps_if (pt_not (pt_val (pe_callB (c_isiK K) (by rfl) T.z_isinstance (by decide +kernel) (pa_cons (pv 0) (pa_cons (pe_bltn (v := .ty "list") (by rfl) T.z_list (by decide +kernel) rfl) pa_nil))))) (pss_one (ps_ret pe_bl)) pss_nil)
      (pss_cons (ps_for PassesOwn.never rfl (pi_enum (by rfl) T.z_enumerate (pa_cons (pv 0) pa_nil)) (pg_tup (by rfl) (pgs_cons (pg_name (i := 2) sc_law_good.nd rfl (.inl rfl)) (pgs_cons (pg_name (i := 3) sc_law_good.nd rfl (.inl rfl)) pgs_nil)))
      (pss_cons (ps_if (PW.pt (pw_or (pt_not (pt_val (pe_callB (c_isiK K) (by rfl) T.z_isinstance (by decide +kernel) (pa_cons (pv 3) (pa_cons (pe_bltn (v := .ty "tuple") (by rfl) T.z_tuple (by decide +kernel) rfl) pa_nil))))) (pw_or (pt_cmpR op_lt (pe_callB (c_lenK K) (by rfl) T.z_len PySem.boot_len (pa_cons (pv 3) pa_nil)) pe_int (nomark _)) (pw_or1 (pt_not (pt_val (pe_callB (c_isiK K) (by rfl) T.z_isinstance (by decide +kernel) (pa_cons (pe_ix (ix_tupK K) (pv 3) pe_int (fun _ _ => rfl)) (pa_cons (pe_bltn (v := .ty "str") (by rfl) T.z_str (by decide +kernel) rfl) pa_nil))))))))) (pss_one (ps_ret pe_bl)) pss_nil)
      (pss_one (ps_if (pt_cmpR op_eq (pe_ix (ix_tupK K) (pv 3) pe_int (fun _ _ => rfl)) pe_str (nomark _)) (pss_one (ps_if (PW.pt (pw_or (pt_cmpR op_ne (pe_callB (c_lenK K) (by rfl) T.z_len PySem.boot_len (pa_cons (pv 3) pa_nil)) pe_int (nomark _)) (pw_or (pt_not (pt_val (pe_call (ok_law_whole T) (hr.mono (by decide)) (by rfl) T.g_law_whole T.f_law_whole.kp T.b_law_whole .nil pass0 (pa_cons (pe_ix (ix_tupK K) (pv 3) pe_int (fun _ _ => rfl)) pa_nil)))) (pw_or1 (pt_cmpR (op_niK K) (pe_ix (ix_tupK K) (pv 3) pe_int (fun _ _ => rfl)) (pe_tup (pa_cons pe_int (pa_cons pe_int pa_nil))) (by rfl)))))) (pss_one (ps_ret pe_bl)) pss_nil)) (pss_one (ps_if (pt_cmpR op_eq (pe_ix (ix_tupK K) (pv 3) pe_int (fun _ _ => rfl)) pe_str (nomark _)) (pss_one (ps_if (PW.pt (pw_or (pt_cmpR op_ne (pe_callB (c_lenK K) (by rfl) T.z_len PySem.boot_len (pa_cons (pv 3) pa_nil)) pe_int (nomark _)) (pw_or (pt_cmpR (op_niK K) (pe_ix (ix_tupK K) (pv 3) pe_int (fun _ _ => rfl)) (pv 1) (by rfl)) (pw_or (pt_not (pt_val (pe_call (ok_law_whole T) (hr.mono (by decide)) (by rfl) T.g_law_whole T.f_law_whole.kp T.b_law_whole .nil pass0 (pa_cons (pe_ix (ix_tupK K) (pv 3) pe_int (fun _ _ => rfl)) pa_nil)))) (pw_or1 (pt_not (pt_chain op_le op_lt pe_int (pe_ix (ix_tupK K) (pv 3) pe_int (fun _ _ => rfl)) pe_int))))))) (pss_one (ps_ret pe_bl)) pss_nil)) (pss_one (ps_if (pt_not (pt_val (pe_call (ok_law_gate T) (hr.mono (by decide)) (by rfl) T.g_law_gate T.f_law_gate.kp T.b_law_gate .nil pass0 (pa_cons (pv 3) (pa_cons (pv 2) pa_nil))))) (pss_one (ps_ret pe_bl)) pss_nil))))))))
      (pss_one (ps_ret pe_bl)))), ?_⟩
  try dsimp only [cxOf, Cx.nox, Cx.wish]
  simp only [L2.start, List.map_cons, List.map_nil, List.length_cons, List.length_nil, Nat.reduceAdd, Nat.reduceSub, List.replicate_succ, List.replicate_zero, List.cons_append, List.nil_append]
  obtain ⟨⟨ps, ha, hA⟩, hN, ok, nl, hlen, h⟩ := h
  have hpl := hA.1
  walk_at "ws"
  refine for_e (ps.map V.ref) (fun i σ' G => ∃ (y2 y3 : Option V), σ' = [some (.ref a), some (.ref b), y2, y3] ∧ Same H G) ⟨_, _, rfl, Same.refl _⟩ (fun i σ' G _ q => ?_) (fun i x σ' G0 G hx q sG => ?_) (fun σ' G q => ?_)
  · obtain ⟨y2, y3, rfl, sm⟩ := q
    exact SqL.of (sm _ _ ha)
  · obtain ⟨y2, y3, rfl, sm0⟩ := q
    have sm := sm0.trans sG
    obtain ⟨p, hp, rfl⟩ := get_map hx
    obtain ⟨r, hr, hrow⟩ := hA.get hp
    have okr := ok i r hr
    have nlr := nl r (List.mem_of_getElem? hr)
    have hrG0 : G p = some (.tup (rowV r)) := sm _ _ hrow
    have haG := sm.seq hN
    cases r with
    | fix c =>
      have hrG : G p = some (.tup [.str "fix", .int c]) := hrG0
      have hc : c = 0 ∨ c = 1 := okr
      rcases hc with rfl | rfl
      · walk_at "ws"
        exact ⟨_, _, rfl, sm.trans (by assumption)⟩
      · walk_at "ws"
        exact ⟨_, _, rfl, sm.trans (by assumption)⟩
    | inn n k =>
      have hk : k < 64 := okr.2
      have hin := in_names okr.1
      have hrG : G p = some (.tup [.str "in", .str n, .int (k : Int)]) := hrG0
      walk_at "ws"
      refine w_niL haG rfl (flat_names nm) ?_
      rw [hin]
      walk_at "ws"
      exact ⟨_, _, rfl, sm⟩
    | inv u =>
      have hrG : G p = some (.tup [.str "not", .int (u : Int)]) := hrG0
      walk_at "ws"
      refine ⟨p, .inv u, i, (· ∈ nm), rfl, hrG0, True.intro, okr, fun G2 s2 => ?_⟩
      walk_at "ws"
      exact ⟨_, _, rfl, sm.trans s2⟩
    | bin o u v =>
      have hrG : G p = some (.tup [.str (bopS o), .int (u : Int), .int (v : Int)]) := hrG0
      cases o <;>
      · walk_at "ws"
        refine ⟨p, .bin _ u v, i, (· ∈ nm), rfl, hrG0, True.intro, okr, fun G2 s2 => ?_⟩
        walk_at "ws"
        exact ⟨_, _, rfl, sm.trans s2⟩
    | lat u => exact nlr.elim
  · obtain ⟨y2, y3, rfl, sm⟩ := q
    walk_at "ws"
    exact h _ sm

/-! three dots pressed -/
def sp_Heap_press (K : PySem.W.Frag) : Sp := fun vs H Q E => ∃ (s c sh r : Addr) (ps : List Addr) (cols : List (List Nat)) (rs : List Row) (k : Nat) (xs : List Nat), vs = [.ref s, .ref sh, .int (k : Int)] ∧ HeapAt K H s c ps cols ∧ SheetAt K H sh r ∧ RowsM H r rs ∧ r ∉ ps ∧ r ≠ c ∧ cols[k]? = some xs ∧ (∀ xs ∈ cols, xs.length ≤ 600000) ∧ rs.length ≤ 800000 ∧
  (∀ (x y z : Nat) (t : List Nat) p H', xs = x :: y :: z :: t → H p = none → HeapAt K H' s c ps (pressC cols k rs.length t) → SheetAt K H' sh r → RowsM H' r (rs ++ pressR rs.length x y z) → Fr (r :: ps) H H' → PairAt H' p (rs.length + 1) (rs.length + 4) → Q (.ref p) H') ∧
  (xs.length < 3 → ∀ C, IsC K "TooFew" C → E (.ref C) none H)
theorem ok_Heap_press (T : Top K mg) : FnOk P w K mg base (L2.CX P w) 2 T.a_Heap_press T.d_Heap_press ["self", "sheet", "k"] (sp_Heap_press K) := by
  refine T.f_Heap_press.okX sc_Heap_press (fun vs H Q E h => ?_) (fun cdv A outer s H vs Q E hr h => ?_)
  · obtain ⟨s, c, sh, r, ps, cols, rs, k, xs, rfl, _⟩ := h
    rfl
  obtain ⟨s, c, sh, r, ps, cols, rs, k, xs, rfl, h⟩ := h
  refine ⟨_, (pss_cons (ps_set (i := 3) sc_Heap_press.nd rfl (.inl rfl) (pe_ix (ix_listK K) (pe_fld (pv 0) rfl) (pv 2) (fun _ _ => rfl)))
      (pss_cons (ps_if (pt_cmpR op_lt (pe_callB (c_lenK K) (by rfl) T.z_len PySem.boot_len (pa_cons (pv 3) pa_nil)) pe_int (nomark _)) (pss_one (ps_raise rfl (takes_of rfl rfl rfl rfl) (pmk_own PySem.F.excBase_ValueError T.x_TooFew T.gc_TooFew T.kc_TooFew (raises_own T.xb_TooFew T.xt_TooFew) (by rfl)))) pss_nil)
      (pss_cons (ps_set (i := 4) sc_Heap_press.nd rfl (.inl rfl) (pe_bm PySem.F.plainAttrs_list PySem.F.slot_list_pop PySem.F.type_list_pop mt_popAt (pv 3) (pa_cons pe_int pa_nil)))
      (pss_cons (ps_set (i := 5) sc_Heap_press.nd rfl (.inl rfl) (pe_bm PySem.F.plainAttrs_list PySem.F.slot_list_pop PySem.F.type_list_pop mt_popAt (pv 3) (pa_cons pe_int pa_nil)))
      (pss_cons (ps_set (i := 6) sc_Heap_press.nd rfl (.inl rfl) (pe_bm PySem.F.plainAttrs_list PySem.F.slot_list_pop PySem.F.type_list_pop mt_popAt (pv 3) (pa_cons pe_int pa_nil)))
      (pss_cons (ps_set (i := 7) sc_Heap_press.nd rfl (.inl rfl) (pe_meth (pv 1) T.cl_Sheet T.m_Sheet_add (ok_Sheet_add T) (hr.mono (by decide)) T.b_Sheet_add .nil pass0 (pa_cons (pe_tup (pa_cons pe_str (pa_cons (pv 4) (pa_cons (pv 5) pa_nil)))) pa_nil)))
      (pss_cons (ps_set (i := 8) sc_Heap_press.nd rfl (.inl rfl) (pe_meth (pv 1) T.cl_Sheet T.m_Sheet_add (ok_Sheet_add T) (hr.mono (by decide)) T.b_Sheet_add .nil pass0 (pa_cons (pe_tup (pa_cons pe_str (pa_cons (pv 7) (pa_cons (pv 6) pa_nil)))) pa_nil)))
      (pss_cons (ps_set (i := 9) sc_Heap_press.nd rfl (.inl rfl) (pe_meth (pv 1) T.cl_Sheet T.m_Sheet_add (ok_Sheet_add T) (hr.mono (by decide)) T.b_Sheet_add .nil pass0 (pa_cons (pe_tup (pa_cons pe_str (pa_cons (pv 4) (pa_cons (pv 5) pa_nil)))) pa_nil)))
      (pss_cons (ps_set (i := 10) sc_Heap_press.nd rfl (.inl rfl) (pe_meth (pv 1) T.cl_Sheet T.m_Sheet_add (ok_Sheet_add T) (hr.mono (by decide)) T.b_Sheet_add .nil pass0 (pa_cons (pe_tup (pa_cons pe_str (pa_cons (pv 7) (pa_cons (pv 6) pa_nil)))) pa_nil)))
      (pss_cons (ps_set (i := 11) sc_Heap_press.nd rfl (.inl rfl) (pe_meth (pv 1) T.cl_Sheet T.m_Sheet_add (ok_Sheet_add T) (hr.mono (by decide)) T.b_Sheet_add .nil pass0 (pa_cons (pe_tup (pa_cons pe_str (pa_cons (pv 9) (pa_cons (pv 10) pa_nil)))) pa_nil)))
      (pss_cons (ps_expr (pe_meth (pv 0) T.cl_Heap T.m_Heap_put (ok_Heap_put T) (hr.mono (by decide)) T.b_Heap_put .nil pass0 (pa_cons (pv 2) (pa_cons (pv 8) pa_nil))))
      (pss_cons (ps_expr (pe_meth (pv 0) T.cl_Heap T.m_Heap_put (ok_Heap_put T) (hr.mono (by decide)) T.b_Heap_put .nil pass0 (pa_cons (pe_op op_add (pv 2) pe_int) (pa_cons (pv 11) pa_nil))))
      (pss_one (ps_ret (pe_tup (pa_cons (pv 8) (pa_cons (pv 11) pa_nil))))))))))))))))), ?_⟩
  try dsimp only [cxOf, Cx.nox, Cx.wish]
  simp only [L2.start, List.map_cons, List.map_nil, List.length_cons, List.length_nil, Nat.reduceAdd, Nat.reduceSub, List.replicate_succ, List.replicate_zero, List.cons_append, List.nil_append]
  obtain ⟨ha, hsh, hM, rps, rc, hk, hsz, hrl, h1, h2⟩ := h
  obtain ⟨⟨C, dx, hs, hC⟩, hc⟩ := id ha
  obtain rfl := hC.one T.nc_Heap
  have c1 := T.cl_Heap
  have c2 := T.n_Heap_many
  have c3 := T.n_Heap_columns
  have c4 := T.cl_Sheet
  have hc1 := hc.1
  have hkl := (List.getElem?_eq_some_iff.mp hk).1
  obtain ⟨p, ys, hp, hys, hat, hpe⟩ := hc.ix hkl
  rw [hk] at hys
  cases hys
  walk_at "ws"
  refine w_ixL (SqL.of hc1) hat ?_
  walk_at "ws"
  · rename_i hlt
    rw [List.length_map, natI_len] at hlt
    exact h2 (by omega) _ T.nc_TooFew
  rename_i hge
  rw [List.length_map, natI_len] at hge
  obtain ⟨x, y, z, t, rfl⟩ : ∃ x y z t, xs = x :: y :: z :: t := by
    cases xs with
    | nil => simp only [List.length_nil] at hge; omega
    | cons x u => cases u with
      | nil => simp only [List.length_cons, List.length_nil] at hge; omega
      | cons y v => cases v with
        | nil => simp only [List.length_cons, List.length_nil] at hge; omega
        | cons z t => exact ⟨x, y, z, t, rfl⟩
  have hpm := List.mem_of_getElem? hp
  have hpe : H p = some (.lst (.int (x : Int) :: .int (y : Int) :: .int (z : Int) :: (natI t).map V.int)) := hpe
  have pr : p ≠ r := fun w => rps (by rw [← w]; exact hpm)
  have tn : ∀ a xs, H a = some (.tup xs) → a ∉ ps := fun a xs e m => by
    obtain ⟨ys, e2⟩ := hc.at m
    rw [e] at e2
    cases e2
  have sn : ∀ a C dx fs, H a = some (.ins C dx fs) → a ∉ ps := fun a C dx fs e m => by
    obtain ⟨ys, e2⟩ := hc.at m
    rw [e] at e2
    cases e2
  have u1 := @upd_same H p (.lst (.int (y : Int) :: .int (z : Int) :: (natI t).map V.int))
  refine w_pop0 hpe ?_
  walk_at "ws"
  refine w_pop0 u1 ?_
  rw [upd_upd]
  have u2 := @upd_same H p (.lst (.int (z : Int) :: (natI t).map V.int))
  walk_at "ws"
  refine w_pop0 u2 ?_
  rw [upd_upd]
  have f0 : Fr ps H (upd H p (.lst ((natI t).map V.int))) := Fr.put hpm
  have ha0 : HeapAt K (upd H p (.lst ((natI t).map V.int))) s c ps (cols.set k t) := ha.put hp
  have shn : sh ∉ ps := by
    obtain ⟨C, d, e, _⟩ := hsh
    exact sn _ _ _ _ e
  have hsh0 := hsh.fr f0 shn
  have hM0 := hM.fr f0 rps (fun a x m e => tn _ _ e m)
  generalize upd H p (.lst ((natI t).map V.int)) = G0 at *
  have rs' : s ≠ r := fun w => by
    obtain ⟨_, e, _⟩ := hM
    rw [← w, hs] at e
    cases e
  have keep : ∀ {G G' : Hp} {cs : List (List Nat)}, HeapAt K G s c ps cs → Fr [r] G G' → HeapAt K G' s c ps cs := fun h f => h.fr f (by simpa using rs') (by simpa using rc.symm) (fun q m w => rps (by rw [← List.mem_singleton.mp w]; exact m))
  have ne0 : ∀ {G : Hp}, HeapAt K G s c ps (cols.set k t) → ∃ dx, G s = some (.ins T.c_Heap dx [("many", .int ((cols.set k t).length : Int)), ("columns", .ref c)]) := fun h => by
    obtain ⟨⟨C, dx, e, e2⟩, _⟩ := h
    obtain rfl := e2.one T.nc_Heap
    exact ⟨dx, e⟩
  obtain ⟨C, dx0, es0, e0⟩ := id hsh0
  obtain rfl := e0.one T.nc_Sheet
  walk_at "ws"
  rename_i p1 H1 n1 s1 e1
  refine use_add (x := .bin .xor x y) (hsh0.same s1) (hM0.same s1) e1 (by omega) fun H2 hs2 hM2 f2 => ?_
  have ha2 := keep (ha0.same s1) f2
  have g2 : Fr (r :: ps) H H2 := ((f0.mono fun m w => List.mem_cons_of_mem _ w).trans (Fr.of s1)).trans (f2.mono fun m w => by rw [List.mem_singleton.mp w]; exact List.mem_cons_self ..)
  obtain ⟨C, dx2, es2, e20⟩ := id hs2
  obtain rfl := e20.one T.nc_Sheet
  walk_at "ws"
  rename_i p3 H3 n3 s3 e3
  refine use_add (x := .bin .xor rs.length z) (hs2.same s3) (hM2.same s3) e3 (by simp only [List.length_append, List.length_cons, List.length_nil]; omega) fun H4 hs4 hM4 f4 => ?_
  have ha4 := keep (ha2.same s3) f4
  have g4 : Fr (r :: ps) H H4 := (g2.trans (Fr.of s3)).trans (f4.mono fun m w => by rw [List.mem_singleton.mp w]; exact List.mem_cons_self ..)
  obtain ⟨C, dx4, es4, e40⟩ := id hs4
  obtain rfl := e40.one T.nc_Sheet
  walk_at "ws"
  rename_i p5 H5 n5 s5 e5
  refine use_add (x := .bin .and x y) (hs4.same s5) (hM4.same s5) e5 (by simp only [List.length_append, List.length_cons, List.length_nil]; omega) fun H6 hs6 hM6 f6 => ?_
  have ha6 := keep (ha4.same s5) f6
  have g6 : Fr (r :: ps) H H6 := (g4.trans (Fr.of s5)).trans (f6.mono fun m w => by rw [List.mem_singleton.mp w]; exact List.mem_cons_self ..)
  obtain ⟨C, dx6, es6, e60⟩ := id hs6
  obtain rfl := e60.one T.nc_Sheet
  walk_at "ws"
  rename_i p7 H7 n7 s7 e7
  refine use_add (x := .bin .and rs.length z) (hs6.same s7) (hM6.same s7) e7 (by simp only [List.length_append, List.length_cons, List.length_nil]; omega) fun H8 hs8 hM8 f8 => ?_
  have ha8 := keep (ha6.same s7) f8
  have g8 : Fr (r :: ps) H H8 := (g6.trans (Fr.of s7)).trans (f8.mono fun m w => by rw [List.mem_singleton.mp w]; exact List.mem_cons_self ..)
  obtain ⟨C, dx8, es8, e80⟩ := id hs8
  obtain rfl := e80.one T.nc_Sheet
  walk_at "ws"
  rename_i p9 H9 n9 s9 e9
  have e9 : H9 p9 = some (.tup (rowV (.bin .or (rs.length + 2) (rs.length + 3)))) := by
    rw [e9]
    simp only [List.length_append, List.length_cons, List.length_nil]
    rfl
  refine use_add (x := .bin .or (rs.length + 2) (rs.length + 3)) (hs8.same s9) (hM8.same s9) e9 (by simp only [List.length_append, List.length_cons, List.length_nil]; omega) fun H10 hs10 hM10 f10 => ?_
  have ha10 := keep (ha8.same s9) f10
  have g10 : Fr (r :: ps) H H10 := (g8.trans (Fr.of s9)).trans (f10.mono fun m w => by rw [List.mem_singleton.mp w]; exact List.mem_cons_self ..)
  simp only [List.append_assoc, List.cons_append, List.nil_append] at hM10
  have hl1 : (rs ++ [Row.bin .xor x y]).length = rs.length + 1 := by rw [List.length_append]; rfl
  have hl4 : (rs ++ [Row.bin .xor x y] ++ [Row.bin .xor rs.length z] ++ [Row.bin .and x y] ++ [Row.bin .and rs.length z]).length = rs.length + 4 := by simp only [List.length_append, List.length_cons, List.length_nil]
  rw [hl1, hl4]
  obtain ⟨dxa, esa⟩ := ne0 ha10
  have hsz0 : ∀ xs ∈ cols.set k t, xs.length ≤ 600000 := fun w m => by
    rcases List.mem_or_eq_of_mem_set m with m | m
    · exact hsz w m
    · have := hsz _ (List.mem_of_getElem? hk)
      rw [m]
      simp only [List.length_cons] at this
      omega
  walk_at "ws"
  refine ⟨s, c, ps, cols.set k t, k, rs.length + 1, rfl, ha10, fun w m => by have := hsz0 w m; omega, fun H11 ha11 f11 => ?_⟩
  obtain ⟨⟨C, dxb, esb, eb⟩, _⟩ := id ha11
  obtain rfl := eb.one T.nc_Heap
  have hsz1 : ∀ xs ∈ addC (cols.set k t) k (rs.length + 1), xs.length ≤ 600001 := by
    intro w m
    unfold addC at m
    cases e : (cols.set k t)[k]? with
    | some ys =>
      rw [e] at m
      rcases List.mem_or_eq_of_mem_set m with m | m
      · have := hsz0 w m; omega
      · rw [m, List.length_append, List.length_singleton]
        have := hsz0 ys (List.mem_of_getElem? e)
        omega
    | none =>
      rw [e] at m
      have := hsz0 w m; omega
  walk_at "ws"
  refine ⟨s, c, ps, _, k + 1, rs.length + 4, rfl, ha11, fun w m => by have := hsz1 w m; omega, fun H12 ha12 f12 => ?_⟩
  have tn10 : ∀ a xs, H10 a = some (.tup xs) → a ∉ ps := fun a xs e m => by
    obtain ⟨ys, e2⟩ := ha10.2.at m
    rw [e] at e2
    cases e2
  have f1012 := f11.trans f12
  have hs12 := hs10.fr f1012 shn
  have hM12 := hM10.fr f1012 rps (fun a x m e => tn10 _ _ e m)
  walk_at "ws"
  rename_i pt H13 n13 s13 e13
  have g13 : Fr (r :: ps) H H13 := (g10.trans (f1012.mono fun m w => List.mem_cons_of_mem _ w)).trans (Fr.of s13)
  refine h1 x y z t pt H13 rfl ?_ (ha12.same s13) (hs12.same s13) (hM12.same s13) g13 e13
  have g12 : Fr (r :: ps) H H12 := g10.trans (f1012.mono fun m w => List.mem_cons_of_mem _ w)
  cases e : H pt with
  | none => rfl
  | some o =>
    by_cases m : pt ∈ r :: ps
    · rcases List.mem_cons.mp m with m | m
      · obtain ⟨_, e2, _⟩ := hM12
        rw [← m, n13] at e2
        cases e2
      · obtain ⟨xs, e2⟩ := ha12.2.at m
        rw [n13] at e2
        cases e2
    · rw [g12 _ _ e m] at n13
      cases n13

theorem Fr.drop {ms ns : List Addr} {H G : Hp} (f : Fr (ms ++ ns) H G) (n : ∀ x ∈ ns, H x = none) : Fr ms H G := fun b o e m => f b o e fun z => by
  rcases List.mem_append.mp z with z | z
  · exact m z
  · rw [n b z] at e
    cases e
theorem dots_add {rs : List Row} {cols : List (List Nat)} (h : DotsOk rs cols) {k w : Nat} (hw : w < rs.length) : DotsOk rs (addC cols k w) := by
  intro xs m u hu
  rcases mem_addC m with q | ⟨ys, q, rfl⟩
  · exact h xs q u hu
  · rcases List.mem_append.mp hu with e | e
    · exact h ys q u e
    · rw [List.mem_singleton.mp e]; exact hw
theorem dots_ext {rs rs' : List Row} {cols : List (List Nat)} (h : DotsOk rs cols) (l : rs.length ≤ rs'.length) : DotsOk rs' cols := fun xs m u hu => Nat.lt_of_lt_of_le (h xs m u hu) l
def sp_law_heap (K : PySem.W.Frag) : Sp := fun vs H Q _ => ∃ (sh rr cl : Addr) (ns : List Int) (many : Nat) (tall : Int), vs = [.ref sh, .ref cl, .int (many : Int), .int tall] ∧ SheetAt K H sh rr ∧ RowsM H rr [] ∧ H cl = some (.lst (ns.map V.int)) ∧ cl ≠ rr ∧ (∀ z ∈ ns, Builtin.Int.intBits z ≤ 1048576) ∧ ns.length ≤ 60 ∧ many ≤ 64 ∧ 1 ≤ tall ∧ tall ≤ 2 ∧
  ∀ (t h c r : Addr) (ps qs : List Addr) (cols : List (List Nat)) (rs : List Row) H', Both K H' h c r ps qs cols → H' t = some (.tup [.ref h, .ref r]) → SheetAt K H' sh rr → RowsM H' rr rs → RowsOk (· ∈ [("a" : Str)]) rs → NoLats rs → rs.length ≤ 60 → DotsOk rs cols → cols.length = many → (lens cols).sum ≤ 60 → rr ∉ ps ++ qs → rr ≠ c → rr ≠ r → c ≠ r → (∀ x, foot h c r ps qs x → H x = none) → H t = none → Fr [rr] H H' → Q (.ref t) H'
theorem ok_law_heap (T : Top K mg) : FnOk P w K mg base CX0 3 T.a_law_heap T.d_law_heap ["_law_sheet", "_law_cells", "_law_many", "_law_tall"] (sp_law_heap K) := by
  refine T.f_law_heap.ok sc_law_heap (fun vs H Q E h => ?_) (fun cdv A outer s H vs Q E hr h => ?_)
  · obtain ⟨sh, rr, cl, ns, many, tall, rfl, _⟩ := h
    rfl
  obtain ⟨sh, rr, cl, ns, many, tall, rfl, h⟩ := h
  refine ⟨_, (pss_cons (ps_set (i := 4) sc_law_heap.nd rfl (.inl rfl) (pe_make T.mk_Heap (ok_Heap__init T) (hr.mono (by decide)) (by rfl) T.gc_Heap T.b_Heap__init .nil pass0 (pa_cons (pv 2) pa_nil)))
      (pss_cons (ps_setLc (i := 5) (own := [("_law_k", 8)]) (g := gName 8) (tt := tYes) (by rfl) sc_law_heap.nd rfl rfl (sw_true rfl rfl rfl (by decide +kernel)) (pi_range1 (by rfl) T.z_range (pa_cons (pv 2) pa_nil)) (blkOk_by (N := ["_law_sheet", "_law_cells", "_law_many", "_law_tall", "_law_heap_here", "_law_rows", "_law_wires", "_law_last", "_law_k", "_law_mixed_here", "_law_column", "_law_wire"]) (sc := defScope s_law_heap) (by decide +kernel)) (fun _ _ _ _ _ => (pg_name (i := 8) sc_law_heap.nd rfl (.inl rfl))) (fun _ _ _ _ _ => pts_nil) (fun _ _ _ _ _ => (pe_lst pa_nil)))
      (pss_cons (ps_set (i := 6) sc_law_heap.nd rfl (.inl rfl) pe_int)
      (pss_cons (ps_set (i := 7) sc_law_heap.nd rfl (.inl rfl) pe_int)
      (pss_cons (ps_for PassesOwn.never rfl (pi_range1 (by rfl) T.z_range (pa_cons (pe_callB (c_lenK K) (by rfl) T.z_len PySem.boot_len (pa_cons (pv 1) pa_nil)) pa_nil)) (pg_name (i := 8) sc_law_heap.nd rfl (.inl rfl))
      (pss_cons (ps_set (i := 9) sc_law_heap.nd rfl (.inl rfl) (pe_call (ok_law_mixed T) (hr.mono (by decide)) (by rfl) T.g_law_mixed T.f_law_mixed.kp T.b_law_mixed .nil pass0 (pa_cons (pe_ix (ix_listK K) (pv 1) (pv 8) (fun _ _ => rfl)) (pa_cons (pv 8) pa_nil))))
      (pss_cons (ps_set (i := 10) sc_law_heap.nd rfl (.inl rfl) (pe_op op_mod (pv 9) (pe_op op_add pe_int (pe_op op_fdiv (pv 2) (pv 3)))))
      (Evl.pss_cut (ps_if (PW.pt (pw_and (pt_cmpR op_gt (pv 2) pe_int (nomark _)) (pw_and1 (pt_cmpR op_eq (pe_op op_mod (pe_op op_fdiv (pv 9) pe_int) pe_int) pe_int (nomark _))))) (pss_one (ps_set (i := 10) sc_law_heap.nd rfl (.inl rfl) (pe_op op_sub (pv 2) pe_int))) pss_nil)
      (pss_cons (ps_set (i := 11) sc_law_heap.nd rfl (.inl rfl) (pe_op op_mod (pe_op op_fdiv (pv 9) pe_int) (pe_op op_add (pv 6) pe_int)))
      (Evl.pss_cut (ps_if (PW.pt (pw_or (pt_cmpR op_eq (pv 11) (pv 6) (nomark _)) (pw_or1 (pt_cmpR op_gt (pe_op op_mod (pe_op op_fdiv (pv 9) pe_int) pe_int) pe_int (nomark _))))) (pss_cons (ps_set (i := 11) sc_law_heap.nd rfl (.inl rfl) (pe_meth (pv 0) T.cl_Sheet T.m_Sheet_add (ok_Sheet_add T) (hr.mono (by decide)) T.b_Sheet_add .nil pass0 (pa_cons (pe_tup (pa_cons pe_str (pa_cons (pe_ix (ix_listK K) (pe_lst (pa_cons pe_str (pa_cons pe_str pa_nil))) (pe_op op_mod (pe_op op_fdiv (pv 6) pe_int) pe_int) (fun _ _ => rfl)) (pa_cons (pe_op op_mod (pv 6) pe_int) pa_nil)))) pa_nil)))
      (pss_one (ps_set (i := 6) sc_law_heap.nd rfl (.inl rfl) (pe_op op_add (pv 6) pe_int)))) (pss_one (ps_if (pt_cmpR op_eq (pe_op op_mod (pe_op op_fdiv (pv 9) pe_int) pe_int) pe_int (nomark _)) (pss_one (ps_set (i := 10) sc_law_heap.nd rfl (.inl rfl) (pv 7))) pss_nil)))
      (pss_cons (ps_set (i := 7) sc_law_heap.nd rfl (.inl rfl) (pv 10))
      (Evl.pss_cut (ps_if (pt_cmpR op_lt (pv 10) (pv 2) (nomark _)) (pss_one (ps_expr (pe_bm PySem.F.plainAttrs_list PySem.F.slot_list_append PySem.F.type_list_append mt_append (pe_ix (ix_listK K) (pv 5) (pv 10) (fun _ _ => rfl)) (pa_cons (pv 11) pa_nil)))) pss_nil)
      (pss_one (ps_expr (pe_meth (pv 4) T.cl_Heap T.m_Heap_put (ok_Heap_put T) (hr.mono (by decide)) T.b_Heap_put .nil pass0 (pa_cons (pv 10) (pa_cons (pv 11) pa_nil)))))))))))))
      (pss_one (ps_ret (pe_tup (pa_cons (pv 4) (pa_cons (pv 5) pa_nil)))))))))), ?_⟩
  try dsimp only [cxOf, Cx.nox, Cx.wish]
  simp only [L2.start, List.map_cons, List.map_nil, List.length_cons, List.length_nil, Nat.reduceAdd, Nat.reduceSub, List.replicate_succ, List.replicate_zero, List.cons_append, List.nil_append]
  obtain ⟨hsh, hM, hS, clrr, hb, hnl, hmany, ht1, ht2, hq⟩ := h
  have hlm : (ns.map V.int).length = ns.length := List.length_map ..
  have c1 := T.cl_Heap
  have c4 := T.cl_Sheet
  walk_at "ws"
  rename_i h dx H1 n1 nd1 s1 e1
  refine ⟨h, T.c_Heap, dx, many, rfl, e1, T.nc_Heap, by omega, fun c ps H2 nc np hh f2 => ⟨rfl, ?_⟩⟩
  have s2 : Same H H2 := f2.same s1 (fun m hm => by rw [List.mem_singleton.mp hm]; exact n1)
  walk_at "ws"
  refine lc_empties (by omega) (fun x => rfl) fun r qs H3 hql nr nq s3 hr => ?_
  rw [show ((many : Int)).toNat = many by omega] at hr
  have s03 := s2.trans s3
  have hS3 : SqL K H3 cl (ns.map V.int) := SqL.of (s03 _ _ hS)
  have hh3 := hh.same s3
  have both0 : Both K H3 h c r ps qs (List.replicate many []) := ⟨hh3, hr, fun p m z => hh.trk p (.inr (.inr m)) (nq p z), fun z => hh.trk c (.inr (.inl rfl)) (nq c z), fun z => hh.trk r (.inr (.inr z)) nr⟩
  have fresh : ∀ x, foot h c r ps qs x → H x = none := fun x hx => by
    rcases hx with rfl | rfl | rfl | hx | hx
    · exact n1
    · exact s1.free nc
    · exact s2.free nr
    · exact s1.free (np x hx)
    · exact s2.free (nq x hx)
  have rrk : H rr ≠ none := fun z => by
    obtain ⟨_, e, _⟩ := hM
    rw [z] at e
    cases e
  have rrn : ∀ x, foot h c r ps qs x → rr ≠ x := fun x hx z => rrk (by rw [z]; exact fresh x hx)
  have rrps : rr ∉ ps ++ qs := fun z => by
    rcases List.mem_append.mp z with z | z
    · exact rrn rr (.inr (.inr (.inr (.inl z)))) rfl
    · exact rrn rr (.inr (.inr (.inr (.inr z)))) rfl
  have clps : cl ∉ [rr] ++ (ps ++ qs) := fun z => by
    rcases List.mem_append.mp z with z | z
    · exact clrr (List.mem_singleton.mp z)
    · have : H cl = none := fresh cl (by
        rcases List.mem_append.mp z with z | z
        · exact .inr (.inr (.inr (.inl z)))
        · exact .inr (.inr (.inr (.inr z))))
      rw [this] at hS
      cases hS
  walk_at "ws"
  refine for_r (fun i σ' G => ∃ (cols : List (List Nat)) (rs : List Row) (last : Nat) (y8 y9 y10 y11 : Option V), σ' = [some (.ref sh), some (.ref cl), some (.int (many : Int)), some (.int tall), some (.ref h), some (.ref r), some (.int (rs.length : Int)), some (.int (last : Int)), y8, y9, y10, y11] ∧ Both K G h c r ps qs cols ∧ SheetAt K G sh rr ∧ RowsM G rr rs ∧ RowsOk (· ∈ [("a" : Str)]) rs ∧ NoLats rs ∧ rs.length ≤ i ∧ DotsOk rs cols ∧ cols.length = many ∧ (lens cols).sum ≤ i ∧ Fr ([rr] ++ (ps ++ qs)) H3 G)
    ⟨_, [], 0, _, _, _, _, rfl, both0, hsh.same s03, hM.same s03, fun i r z => (by cases z), fun r z => (by cases z), Nat.le_refl _, fun xs m => (by rw [(List.mem_replicate.mp m).2]; intro w hw; cases hw), List.length_replicate, ?_, Fr.refl⟩ (fun i σ' G hi q => ?_) (fun σ' G q => ?_)
  · have : ∀ n : Nat, (lens (List.replicate n [])).sum = 0 := fun n => by
      induction n with
      | zero => rfl
      | succ n ih => rw [List.replicate_succ]; show 0 + (lens (List.replicate n [])).sum = 0; rw [ih]
    rw [this]
    exact Nat.le_refl _
  · obtain ⟨cols, rs, last, y8, y9, y10, y11, rfl, both, hs, hMr, ok, nl, hrl, dk, hcl, hsum, fG⟩ := q
    have hi' : i < ns.length := by rw [hlm] at hi; omega
    have hzb := hb _ (List.getElem_mem hi')
    have hSG := seq_fr fG clps hS3
    walk_at "ws"
    refine w_ixL hSG (get_int hi') ?_
    have hdv : 0 ≤ (many : Int) / tall := Int.ediv_nonneg (by omega) (by omega)
    walk_at "ws"
    rename_i v hv v0 v1
    have k0 : 0 ≤ v % (1 + (many : Int) / tall) := Int.emod_nonneg _ (by omega)
    obtain ⟨col0, hcol⟩ := Int.eq_ofNat_of_zero_le k0
    rw [hcol]
    walk_at "ws"
    refine w_cut (fun σ' G' => ∃ col : Nat, σ' = [some (.ref sh), some (.ref cl), some (.int (many : Int)), some (.int tall), some (.ref h), some (.ref r), some (.int (rs.length : Int)), some (.int (last : Int)), some (.int (i : Int)), some (.int v), some (.int (col : Int)), y11] ∧ G' = G) ?_ fun σ' G' k => ?_
    · walk_at "ws"
      all_goals first
        | exact ⟨col0, rfl, rfl⟩
        | (refine ⟨many - 1, ?_, rfl⟩
           rw [show ((many - 1 : Nat) : Int) = (many : Int) - 1 by omega]
           rfl)
    obtain ⟨col, rfl, rfl⟩ := k
    have w0' : 0 ≤ v / 67 % ((rs.length : Int) + 1) := Int.emod_nonneg _ (by omega)
    have w1' : v / 67 % ((rs.length : Int) + 1) < (rs.length : Int) + 1 := Int.emod_lt_of_pos _ (by omega)
    walk_at "ws"
    obtain ⟨w0, hw0⟩ := Int.eq_ofNat_of_zero_le w0'
    rw [hw0] at w1' ⊢
    obtain ⟨C, dxs, es, e20⟩ := id hs
    obtain rfl := e20.one T.nc_Sheet
    have ix0 : (rs.length : Int) / 60 % 2 = 0 := by omega
    refine w_cut (fun σ' G' => ∃ (rs' : List Row) (w col' : Nat), σ' = [some (.ref sh), some (.ref cl), some (.int (many : Int)), some (.int tall), some (.ref h), some (.ref r), some (.int (rs'.length : Int)), some (.int (last : Int)), some (.int (i : Int)), some (.int v), some (.int (col' : Int)), some (.int (w : Int))] ∧ Both K G' h c r ps qs cols ∧ SheetAt K G' sh rr ∧ RowsM G' rr rs' ∧ RowsOk (· ∈ [("a" : Str)]) rs' ∧ NoLats rs' ∧ rs'.length ≤ i + 1 ∧ rs.length ≤ rs'.length ∧ w < rs'.length ∧ Fr ([rr] ++ (ps ++ qs)) H3 G') ?_ fun σ' G' k => ?_
    · walk_at "ws"
      all_goals first
        | exact ⟨rs, w0, last, rfl, both, hs, hMr, ok, nl, by omega, Nat.le_refl _, by omega, fG⟩
        | exact ⟨rs, w0, col, rfl, both, hs, hMr, ok, nl, by omega, Nat.le_refl _, by omega, fG⟩
        | (rw [ix0]
           rename_i pl G1 n1' s1' e1'
           refine w_ixL (SqL.of e1') rfl ?_
           walk_at "ws"
           rename_i pt G2 n2' s2' e2'
           have s12' := s1'.trans s2'
           have e2' : G2 pt = some (.tup (rowV (.inn "a" (rs.length % 60)))) := by
             rw [e2', show (rs.length : Int) % 60 = ((rs.length % 60 : Nat) : Int) by omega]
             rfl
           refine use_add (x := .inn "a" (rs.length % 60)) (hs.same s12') (hMr.same s12') e2' (by omega) fun G3 hs3 hM3 f3 => ?_
           walk_at "ws"
           refine ⟨rs ++ [.inn "a" (rs.length % 60)], rs.length, col, ?_, (both.same s12').fr f3 (fun x hx z => rrn x hx (List.mem_singleton.mp z).symm), hs3, hM3, ok.snoc (r := .inn "a" (rs.length % 60)) ⟨List.mem_cons_self .., by omega⟩, nl.snoc (r := .inn "a" (rs.length % 60)) True.intro, by rw [List.length_append]; simp only [List.length_cons, List.length_nil]; omega, by rw [List.length_append]; omega, by rw [List.length_append]; simp only [List.length_cons, List.length_nil]; omega, (fG.trans (Fr.of s12')).trans (f3.mono fun m hm => List.mem_append_left _ hm)⟩
           rw [List.length_append]
           rfl)
    obtain ⟨rs', w, col', rfl, both', hs', hM', ok', nl', hrl', hrr', hw, fG'⟩ := k
    have hr0 := both'.rows.1
    have hrm : (qs.map V.ref).length = cols.length := by rw [List.length_map, both'.rows.2.1.1]
    walk_at "ws"
    refine w_cut (fun σ' G5 => σ' = [some (.ref sh), some (.ref cl), some (.int (many : Int)), some (.int tall), some (.ref h), some (.ref r), some (.int (rs'.length : Int)), some (.int (col' : Int)), some (.int (i : Int)), some (.int v), some (.int (col' : Int)), some (.int (w : Int))] ∧ HeapAt K G5 h c ps cols ∧ Cols G5 r qs (addC cols col' w) ∧ SheetAt K G5 sh rr ∧ RowsM G5 rr rs' ∧ Fr ([rr] ++ (ps ++ qs)) H3 G5) ?_ fun σ' G5 k => ?_
    · walk_at "ws"
      · obtain ⟨p, xs, g1, g2, g3, g4⟩ := both'.rows.ix (k := col') (by omega)
        have hpq := List.mem_of_getElem? g1
        have hxl := lens_le (List.mem_of_getElem? g2)
        have hz : ((natI xs).map V.int).length ≤ 100000 := by rw [List.length_map, natI_len]; omega
        refine w_ixL (SqL.of hr0) g3 ?_
        walk_at "ws"
        rw [nat_snoc]
        have fp : Fr [p] G' (upd G' p (.lst ((natI (xs ++ [w])).map V.int))) := Fr.put (List.mem_cons_self ..)
        refine ⟨rfl, both'.heap.fr fp (fun z => both'.sq (by rw [List.mem_singleton.mp z]; exact hpq)) (fun z => both'.cq (by rw [List.mem_singleton.mp z]; exact hpq)) (fun x m z => both'.pq x m (by rw [List.mem_singleton.mp z]; exact hpq)), ?_, hs'.fr fp ?_, hM'.fr fp ?_ ?_, fG'.trans (Fr.put (List.mem_append_right _ (List.mem_append_right _ hpq)))⟩
        · rw [addC_set g2]
          exact both'.rows.put g1
        · intro z
          obtain ⟨C, d, e, _⟩ := hs'
          rw [List.mem_singleton.mp z, g4] at e
          cases e
        · intro z
          exact rrps (List.mem_append_right _ (by rw [List.mem_singleton.mp z]; exact hpq))
        · intro q x m e
          rw [List.mem_singleton.mp m] at e
          rw [show G' p = _ from e] at g4
          cases g4
      · rw [addC_no (by omega)]
        exact ⟨rfl, both'.heap, both'.rows, hs', hM', fG'⟩
    obtain ⟨rfl, ha5, hr5, hs5, hM5, fG5⟩ := k
    obtain ⟨⟨C, dxh, es5, eh5⟩, _⟩ := id ha5
    obtain rfl := eh5.one T.nc_Heap
    walk_at "ws"
    refine ⟨h, c, ps, cols, col', w, rfl, ha5, fun xs m => by have := lens_le m; omega, fun G6 ha6 f6 => ?_⟩
    have shps : sh ∉ ps := fun m => by
      obtain ⟨C, d, e, _⟩ := hs5
      obtain ⟨xs, e2⟩ := ha5.2.at m
      rw [e] at e2
      cases e2
    have hb := sum_bump (lens cols) col'
    refine ⟨_, rs', col', _, _, _, _, rfl, ⟨ha6, hr5.fr f6 both'.rp (fun q m z => both'.pq q z m), both'.pq, both'.cq, both'.rp⟩, hs5.fr f6 shps, hM5.fr f6 (fun z => rrps (List.mem_append_left _ z)) (fun q x m e => ?_), ok', nl', hrl', dots_add (dots_ext dk hrr') hw, by rw [addC_len]; exact hcl, by rw [lens_bump]; omega, fG5.trans (f6.mono fun m hm => List.mem_append_right _ (List.mem_append_left _ hm))⟩
    obtain ⟨xs, e2⟩ := ha5.2.at m
    rw [show G5 q = _ from e] at e2
    cases e2
  · obtain ⟨cols, rs, last, y8, y9, y10, y11, rfl, both, hs, hMr, ok, nl, hrl, dk, hcl, hsum, fG⟩ := q
    rw [hlm] at hrl hsum
    walk_at "ws"
    rename_i t H4 n4 s4 e4
    have fA : Fr ([rr] ++ (ps ++ qs)) H H4 := ((Fr.of s03).trans fG).trans (Fr.of s4)
    have f3 : Fr [rr] H H4 := fA.drop fun x hx => fresh x (by
      rcases List.mem_append.mp hx with z | z
      · exact .inr (.inr (.inr (.inl z)))
      · exact .inr (.inr (.inr (.inr z))))
    have fB : Fr [rr] H G := ((Fr.of s03).trans fG).drop fun x hx => fresh x (by
      rcases List.mem_append.mp hx with z | z
      · exact .inr (.inr (.inr (.inl z)))
      · exact .inr (.inr (.inr (.inr z))))
    have nt : H t = none := by
      cases e : H t with
      | none => rfl
      | some o =>
        by_cases z : t = rr
        · obtain ⟨_, e2, _⟩ := hMr
          rw [z, e2] at n4
          cases n4
        · rw [fB _ _ e (by simpa using z)] at n4
          cases n4
    exact hq t h c r ps qs cols rs H4 (both.same s4) e4 (hs.same s4) (hMr.same s4) ok nl (by omega) dk hcl (by omega) rrps (rrn c (.inr (.inl rfl))) (rrn r (.inr (.inr (.inl rfl)))) (fun z => hh.trk c (.inr (.inl rfl)) (by rw [z]; exact nr)) fresh nt f3

theorem c_sumK {X : Cx} (K : PySem.W.Frag) (e : X.K = K := by rfl) (hc : X.calm = true := by rfl) : CallR X (.builtin "sum") (rSum K) := by subst e; exact cr_sum hc
theorem w_sumL {K : PySem.W.Frag} {H : Hp} {Q : VK} {a : Addr} {ns : List Int} (h : SqL K H a (ns.map V.int)) (q : Q (.int ns.sum) H) : rSum K [.ref a] H Q := ⟨a, ns, rfl, h, q⟩

theorem dpAll_of {α : Type} {K : PySem.W.Frag} {H : Hp} {R : Addr → α → Prop} {f : α → PyData} (hR : ∀ p x, R p x → Dp K H (.ref p) (f x)) : ∀ {ps : List Addr} {xs : List α}, A2 R ps xs → DpAll K H (ps.map V.ref) (xs.map f)
  | [], [], _ => .nil
  | [], _ :: _, h => by have := h.1; simp at this
  | _ :: _, [], h => by have := h.1; simp at this
  | p :: ps, r :: rs, h => .cons (hR _ _ h.tail.1) (dpAll_of hR h.tail.2)
theorem layAll_of {α : Type} {f : α → PyData} (h : ∀ x, PyData.canLay0 (f x) = true) : ∀ xs : List α, PyData.canLayAll0 (xs.map f) = true
  | [] => rfl
  | x :: r => by
    show (PyData.canLay0 (f x) && PyData.canLayAll0 (r.map f)) = true
    rw [layAll_of h r, h x]
    rfl
theorem depthAll_of {α : Type} {f : α → PyData} {n : Nat} (h : ∀ x, PyData.depth (f x) ≤ n) : ∀ xs : List α, PyData.depthAll (xs.map f) ≤ n
  | [] => Nat.zero_le _
  | x :: r => Nat.max_le.mpr ⟨h x, depthAll_of h r⟩
/-! slices of mapped lists -/
def cutA {α : Type} (xs : List α) (lo hi : Option Int) : List α := (xs.drop (HT.sIx xs.length 0 lo)).take (HT.sIx xs.length xs.length hi - HT.sIx xs.length 0 lo)
theorem cut_map {α : Type} (f : α → V) (xs : List α) (lo hi : Option Int) : cutV (xs.map f) lo hi = (cutA xs lo hi).map f := by
  unfold cutV cutA
  rw [List.length_map, List.map_take, List.map_drop]
theorem cutA_mem {α : Type} {xs : List α} {lo hi : Option Int} {x : α} (h : x ∈ cutA xs lo hi) : x ∈ xs := List.mem_of_mem_drop (List.mem_of_mem_take h)
theorem cutA_len {α : Type} (xs : List α) (lo hi : Option Int) : (cutA xs lo hi).length ≤ xs.length := by
  unfold cutA
  rw [List.length_take, List.length_drop]
  omega
theorem cutA_upto {α : Type} (xs : List α) (n : Nat) : cutA xs none (some (n : Int)) = xs.take n := by
  unfold cutA
  rw [HT.sIx_none, HT.sIx_nat, List.drop_zero, Nat.sub_zero]
  rcases Nat.le_total n xs.length with h | h
  · rw [Nat.min_eq_left h]
  · rw [Nat.min_eq_right h, List.take_of_length_le (Nat.le_refl _), List.take_of_length_le h]

theorem exc_TooFew (T : Top K mg) : ExcC K T.c_TooFew := ⟨T.ega_TooFew, T.egg_TooFew, T.xb_TooFew, T.ehd_TooFew, T.ecl_TooFew, T.esp_TooFew, T.etk_TooFew, T.emr_TooFew⟩
def sp_law_press (K : PySem.W.Frag) : Sp := fun vs H Q _ => ∃ (s c sh r : Addr) (ps : List Addr) (cols : List (List Nat)) (rs : List Row) (k : Nat) (xs : List Nat), vs = [.ref s, .ref sh, .int (k : Int)] ∧ HeapAt K H s c ps cols ∧ SheetAt K H sh r ∧ RowsM H r rs ∧ r ∉ ps ∧ r ≠ c ∧ cols[k]? = some xs ∧ (∀ xs ∈ cols, xs.length ≤ 600000) ∧ rs.length ≤ 800000 ∧
  (∀ (x y z : Nat) (t : List Nat) p H', xs = x :: y :: z :: t → H p = none → HeapAt K H' s c ps (pressC cols k rs.length t) → SheetAt K H' sh r → RowsM H' r (rs ++ pressR rs.length x y z) → Fr (r :: ps) H H' → PairAt H' p (rs.length + 1) (rs.length + 4) → Q (.ref p) H') ∧
  (xs.length < 3 → ∀ H', Same H H' → Q (.str "few") H')
theorem ok_law_press (T : Top K mg) : FnOk P w K mg base CX0 3 T.a_law_press T.d_law_press ["_law_heap_here", "_law_sheet", "_law_k"] (sp_law_press K) := by
  refine T.f_law_press.ok sc_law_press (fun vs H Q E h => ?_) (fun cdv A outer s H vs Q E hr h => ?_)
  · obtain ⟨s, c, sh, r, ps, cols, rs, k, xs, rfl, _⟩ := h
    rfl
  obtain ⟨s, c, sh, r, ps, cols, rs, k, xs, rfl, h⟩ := h
  refine ⟨_, (pss_cons (ps_set (i := 3) sc_law_press.nd rfl (.inl rfl) pe_non)
      (pss_cons (ps_set (i := 4) sc_law_press.nd rfl (.inl rfl) pe_non)
      (pss_cons (ps_try_named (i := 5) rfl rfl rfl sc_law_press.nd rfl rfl takes0 (fun W pn xe tk ow => (pss_one (ps_set (i := 3) sc_law_press.nd rfl (.inl rfl) (pe_methS (pv 0) T.cl_Heap T.m_Heap_press (ok_Heap_press T) (hr.mono (by decide)) T.b_Heap_press (fun σ => passAt tk σ) (pa_cons (pv 1) (pa_cons (pv 2) pa_nil))))))
      (.cons ⟨rfl, by decide, .inl T.gc_TooFew⟩ (fun a oe cls d pn hz hf => (pss_one (ps_set (i := 4) sc_law_press.nd rfl (.inl rfl) (pv 5))))
      .nil))
      (pss_cons (ps_if (pt_cmpR op_isNo (pv 4) pe_non (nomark _)) (pss_one (ps_ret (pv 3))) pss_nil)
      (pss_cons (ps_if (pt_val (pe_callB (c_isxT K) (by rfl) T.z_isinstance (by decide +kernel) (pa_cons (pv 4) (pa_cons (pe_tup (pa_cons (pe_glob (v := .ref T.c_TooMany) (by rfl) T.gc_TooMany rfl) (pa_cons (pe_glob (v := .ref T.c_TooWide) (by rfl) T.gc_TooWide rfl) (pa_cons (pe_glob (v := .ref T.c_NoFormula) (by rfl) T.gc_NoFormula rfl) (pa_cons (pe_glob (v := .ref T.c_NoName) (by rfl) T.gc_NoName rfl) (pa_cons (pe_glob (v := .ref T.c_NoLine) (by rfl) T.gc_NoLine rfl) (pa_cons (pe_glob (v := .ref T.c_NoCircuit) (by rfl) T.gc_NoCircuit rfl) (pa_cons (pe_glob (v := .ref T.c_OutOfWidth) (by rfl) T.gc_OutOfWidth rfl) pa_nil)))))))) pa_nil)))) (pss_one (ps_ret pe_non)) pss_nil)
      (pss_cons (ps_if (PW.pt (pw_or (pt_not (pt_val (pe_callB (c_isx K) (by rfl) T.z_isinstance (by decide +kernel) (pa_cons (pv 4) (pa_cons (pe_glob (v := .ref T.c_PressError) (by rfl) T.gc_PressError rfl) pa_nil))))) (pw_or1 (pt_not (pt_val (pe_callB (c_isx K) (by rfl) T.z_isinstance (by decide +kernel) (pa_cons (pv 4) (pa_cons (pe_bltn (v := .ty "ValueError") (by rfl) T.z_ValueError (by decide +kernel) rfl) pa_nil)))))))) (pss_one (ps_ret pe_non)) pss_nil)
      (pss_one (ps_ret pe_str)))))))), ?_⟩
  try dsimp only [cxOf, Cx.nox, Cx.wish]
  simp only [L2.start, List.map_cons, List.map_nil, List.length_cons, List.length_nil, Nat.reduceAdd, Nat.reduceSub, List.replicate_succ, List.replicate_zero, List.cons_append, List.nil_append]
  obtain ⟨ha, hsh, hM, rps, rc, hk, hsz, hrl, h1, h2⟩ := h
  obtain ⟨⟨C, dx, hs, hC⟩, hc⟩ := id ha
  obtain rfl := hC.one T.nc_Heap
  have c1 := T.cl_Heap
  walk_at "ws"
  refine ⟨s, c, sh, r, ps, cols, rs, k, xs, rfl, ha, hsh, hM, rps, rc, hk, hsz, hrl, fun x y z t p H' e n a1 a2 a3 a4 a5 => ?_, fun hlt C hC => ?_⟩
  · walk_at "ws"
    exact h1 x y z t p H' e n a1 a2 a3 a4 a5
  · obtain rfl := hC.one T.nc_TooFew
    refine w_hit T.m_TooFew_TooFew fun a na => ?_
    walk_at "ws"
    refine w_keep fun H1 s1 e1 => ?_
    have X := exc_TooFew T
    walk_at "ws"
    rename_i tp H2 n2 s2 e2
    have e12 := s2 _ _ e1
    refine w_isxT0 (cs := [T.c_TooMany, T.c_TooWide, T.c_NoFormula, T.c_NoName, T.c_NoLine, T.c_NoCircuit, T.c_OutOfWidth]) e12 X e2 (fun c m => ?_) ?_
    · simp only [List.mem_cons, List.not_mem_nil, or_false] at m
      rcases m with rfl | rfl | rfl | rfl | rfl | rfl | rfl
      · exact T.k_TooFew_TooMany
      · exact T.k_TooFew_TooWide
      · exact T.k_TooFew_NoFormula
      · exact T.k_TooFew_NoName
      · exact T.k_TooFew_NoLine
      · exact T.k_TooFew_NoCircuit
      · exact T.k_TooFew_OutOfWidth
    walk_at "ws"
    refine w_isx e12 X (.own _) T.k_TooFew_PressError ?_
    walk_at "ws"
    refine w_isx e12 X (.ty _) T.kv_TooFew ?_
    walk_at "ws"
    exact h2 hlt _ (s1.trans s2)
/-! two wires told -/
def sp_law_two (K : PySem.W.Frag) : Sp := fun vs H Q _ => ∃ (p b th : Addr) (m q n x y z : Nat) (bs : List Int), vs = [.ref p, .int (n : Int), .ref b, .ref th] ∧ PairAt H p m q ∧ SqL K H b (bs.map V.int) ∧ H th = some (.lst ((natI [x, y, z]).map V.int)) ∧ n = bs.length ∧ m < n ∧ q < n ∧ x < n ∧ y < n ∧ z < n ∧
  bs.getD m 0 = (bs.getD x 0 + bs.getD y 0 + bs.getD z 0) % 2 ∧ bs.getD q 0 = (bs.getD x 0 + bs.getD y 0 + bs.getD z 0) / 2 ∧ ∀ H', Same H H' → Q (.bl true) H'
theorem ok_law_two (T : Top K mg) : FnOk P w K mg base CX0 2 T.a_law_two T.d_law_two ["_law_found", "_law_size", "_law_bits_here", "_law_three"] (sp_law_two K) := by
  refine T.f_law_two.ok sc_law_two (fun vs H Q E h => ?_) (fun cdv A outer s H vs Q E hr h => ?_)
  · obtain ⟨p, b, th, m, q, n, x, y, z, bs, rfl, _⟩ := h
    rfl
  obtain ⟨p, b, th, m, q, n, x, y, z, bs, rfl, h⟩ := h
  refine ⟨_, (pss_cons (ps_if (PW.pt (pw_or (pt_not (pt_val (pe_callB (c_isiK K) (by rfl) T.z_isinstance (by decide +kernel) (pa_cons (pv 0) (pa_cons (pe_bltn (v := .ty "tuple") (by rfl) T.z_tuple (by decide +kernel) rfl) pa_nil))))) (pw_or1 (pt_cmpR op_ne (pe_callB (c_lenK K) (by rfl) T.z_len PySem.boot_len (pa_cons (pv 0) pa_nil)) pe_int (nomark _))))) (pss_one (ps_ret pe_bl)) pss_nil)
      (pss_cons (ps_for PassesOwn.never rfl (pi_tup (pv 0)) (pg_name (i := 4) sc_law_two.nd rfl (.inl rfl))
      (pss_one (ps_if (PW.pt (pw_or (pt_not (pt_val (pe_call (ok_law_whole T) (hr.mono (by decide)) (by rfl) T.g_law_whole T.f_law_whole.kp T.b_law_whole .nil pass0 (pa_cons (pv 4) pa_nil)))) (pw_or (pt_cmpR op_lt (pv 4) pe_int (nomark _)) (pw_or1 (pt_cmpR op_ge (pv 4) (pv 1) (nomark _)))))) (pss_one (ps_ret pe_bl)) pss_nil)))
      (pss_cons (ps_set (i := 5) sc_law_two.nd rfl (.inl rfl) (pe_callB (c_sumK K) (by rfl) T.z_sum (by decide +kernel) (pa_cons (pe_lc (own := [("_law_wire", 4)]) (g := gName 4) (tt := tYes) (by rfl) sc_law_two.nd (pi_list (pv 3)) (blkOk_by (N := ["_law_found", "_law_size", "_law_bits_here", "_law_three", "_law_wire", "_law_total"]) (sc := defScope s_law_two) (by decide +kernel)) (fun _ _ _ _ _ => (pg_name (i := 4) sc_law_two.nd rfl (.inl rfl))) (fun _ _ _ _ _ => pts_nil) (fun _ _ _ _ _ => (pe_ix (ix_listK K) (pv 2) (pv 4) (fun _ _ => rfl)))) pa_nil)))
      (pss_one (ps_ret (pe_and (pe_cmpR op_eq (pe_ix (ix_listK K) (pv 2) (pe_ix (ix_tupK K) (pv 0) pe_int (fun _ _ => rfl)) (fun _ _ => rfl)) (pe_op op_mod (pv 5) pe_int) (nomark _)) (pe_one (pe_cmpR op_eq (pe_ix (ix_listK K) (pv 2) (pe_ix (ix_tupK K) (pv 0) pe_int (fun _ _ => rfl)) (fun _ _ => rfl)) (pe_op op_fdiv (pv 5) pe_int) (nomark _))))))))), ?_⟩
  try dsimp only [cxOf, Cx.nox, Cx.wish]
  simp only [L2.start, List.map_cons, List.map_nil, List.length_cons, List.length_nil, Nat.reduceAdd, Nat.reduceSub, List.replicate_succ, List.replicate_zero, List.cons_append, List.nil_append]
  obtain ⟨hp, hb, hth, hn, hm, hq, hx, hy, hz, e1, e2, h⟩ := h
  have hp : H p = some (.tup [.int (m : Int), .int (q : Int)]) := hp
  walk_at "ws"
  refine for_t ((natI [m, q]).map V.int) (fun i σ' G => ∃ y4 : Option V, σ' = [some (.ref p), some (.int (n : Int)), some (.ref b), some (.ref th), y4, none] ∧ G = H) ⟨_, rfl, rfl⟩ (fun i σ' G _ k => ?_) (fun i x σ' G hx k => ?_) (fun σ' G k => ?_)
  · obtain ⟨y4, rfl, rfl⟩ := k
    exact SqT.of hp
  · obtain ⟨y4, rfl, rfl⟩ := k
    obtain ⟨z, hz, rfl⟩ := get_map hx
    obtain ⟨w, hw, rfl⟩ := natI_get hz
    have hw2 : w < n := by
      rcases List.mem_cons.mp (List.mem_of_getElem? hw) with z | z
      · rw [z]; exact hm
      · rw [List.mem_singleton.mp z]; exact hq
    walk_at "ws"
    exact ⟨_, rfl, rfl⟩
  obtain ⟨y4, rfl, rfl⟩ := k
  walk_at "ws"
  refine lc_lookL [x, y, z] (fun w => bs.getD w 0) rfl (SqL.of hth) (Nat.le_of_ble_eq_true rfl) (fun x => rfl) (fun _ => rfl) (fun _ => rfl) hb (fun w hw => bit_get ?_) fun p1 G1 n1 s1 e3 => ?_
  · simp only [List.mem_cons, List.not_mem_nil, or_false] at hw
    rcases hw with z | z | z <;> rw [z] <;> omega
  walk_at "ws"
  refine w_sumL (SqL.of e3) ?_
  have hpG := s1 _ _ hp
  have hbG := s1.seq hb
  have es : ([x, y, z].map fun w => bs.getD w 0).sum = bs.getD x 0 + bs.getD y 0 + bs.getD z 0 := by
    simp only [List.map_cons, List.map_nil, List.sum_cons, List.sum_nil]
    omega
  rw [es]
  walk_at "wk"
  refine w_ixL hbG (bit_get (by omega)) ?_
  walk_at "wk"
  rw [← e1]
  refine w_itC (decide_eq_true rfl) ?_
  walk_at "wk"
  refine w_ixL hbG (bit_get (by omega)) ?_
  walk_at "wk"
  rw [← e2, decide_eq_true rfl]
  exact h _ s1

theorem A2.set {α β : Type} {R : α → β → Prop} {xs : List α} {ys : List β} {x : α} {y : β} (h : A2 R xs ys) (k : Nat) (r : R x y) : A2 R (xs.set k x) (ys.set k y) := by
  refine ⟨by rw [List.length_set, List.length_set]; exact h.1, fun i u v hu hv => ?_⟩
  rw [List.getElem?_set] at hu hv
  by_cases e : k = i
  · subst e
    rw [if_pos rfl] at hu hv
    split at hu
    · split at hv
      · cases hu
        cases hv
        exact r
      · cases hv
    · cases hu
  · rw [if_neg e] at hu hv
    exact h.2 i u v hu hv
theorem nodup_set {p : Addr} : ∀ {ps : List Addr} (_ : ps.Nodup) (k : Nat) (_ : p ∉ ps), (ps.set k p).Nodup
  | [], h, _, _ => h
  | x :: r, h, 0, n => List.nodup_cons.mpr ⟨fun m => n (List.mem_cons_of_mem _ m), (List.nodup_cons.mp h).2⟩
  | x :: r, h, k + 1, n => by
    show (x :: r.set k p).Nodup
    refine List.nodup_cons.mpr ⟨fun m => ?_, nodup_set (List.nodup_cons.mp h).2 k fun m => n (List.mem_cons_of_mem _ m)⟩
    rcases List.mem_or_eq_of_mem_set m with z | z
    · exact (List.nodup_cons.mp h).1 z
    · exact n (by rw [z]; exact List.mem_cons_self ..)
theorem a_named2 {nm : List Str} (hn : ∀ n ∈ nm, PyData.strOk n = true) {rs : List Row} (h : RowsOk (· ∈ nm) rs) : ∀ r ∈ rs, NmOk r := by
  intro r hr
  obtain ⟨i, hi⟩ := List.mem_iff_getElem?.mp hr
  have ok := h i r hi
  cases r with
  | inn n k => exact hn n ok.1
  | _ => exact True.intro
theorem ok_a : ∀ n ∈ [("a" : Str)], PyData.strOk n = true := fun n h => by
  rw [List.mem_singleton.mp h]
  decide +kernel
theorem RowsM.ne {H : Hp} {a x : Addr} {rs : List Row} (h : RowsM H a rs) (n : H x = none) : x ≠ a := fun z => by
  obtain ⟨_, e, _⟩ := h
  rw [← z, n] at e
  cases e
theorem HeapAt.nps {K : PySem.W.Frag} {H : Hp} {h c x : Addr} {ps : List Addr} {cols : List (List Nat)} (k : HeapAt K H h c ps cols) (n : H x = none) : x ∉ ps := fun z => k.trk x (.inr (.inr z)) n
theorem not_cons {x r : Addr} {ps : List Addr} (h : x ≠ r) (k : x ∉ ps) : x ∉ r :: ps := fun z => by
  rcases List.mem_cons.mp z with z | z
  · exact h z
  · exact k z
theorem np_heap {H : Hp} {c r : Addr} {ps : List Addr} {rs : List Row} {cols : List (List Nat)} (hM : RowsM H r rs) (hc : Cols H c ps cols) : ∀ p x, p ∈ r :: ps → RowAt H p x → False := fun p x m e => by
  have e : H p = some (.tup (rowV x)) := e
  rcases List.mem_cons.mp m with z | z
  · obtain ⟨_, e2, _⟩ := hM
    rw [z, e2] at e
    cases e
  · obtain ⟨xs, e2⟩ := hc.at z
    rw [e2] at e
    cases e
theorem np_lst {H : Hp} {a : Addr} {xs : List V} (h : H a = some (.lst xs)) : ∀ p x, p ∈ [a] → RowAt H p x → False := fun p x m e => by
  rw [List.mem_singleton.mp m] at e
  rw [show H a = _ from e] at h
  cases h
theorem A2.take {α β : Type} {R : α → β → Prop} {xs : List α} {ys : List β} (h : A2 R xs ys) (n : Nat) : A2 R (xs.take n) (ys.take n) := by
  refine ⟨by rw [List.length_take, List.length_take, h.1], fun i x y hx hy => ?_⟩
  rw [List.getElem?_take] at hx hy
  split at hx
  · rename_i c
    rw [if_pos c] at hy
    exact h.2 i x y hx hy
  · cases hx
theorem Cols.swap {H : Hp} {c p : Addr} {ps : List Addr} {cols : List (List Nat)} {xs : List Nat} (h : Cols H c ps cols) (k : Nat) (hp : NatsAt H p xs) (pn : p ∉ ps) (pc : p ≠ c) : Cols (upd H c (.lst ((ps.set k p).map V.ref))) c (ps.set k p) (cols.set k xs) := by
  have cn := h.cn
  exact ⟨upd_same, A2.set (h.2.1.mono2 fun q r m t => hp_upd (fun z => cn (by rw [← z]; exact m)) t) k (hp_upd pc hp), nodup_set h.2.2 k pn⟩
def WordsAt (H : Hp) (wd : Addr) (ds : List Addr) (wss : List (List (Str × Int))) : Prop := H wd = some (.lst (ds.map V.ref)) ∧ A2 (DictAt H) ds wss ∧ ∀ ws ∈ wss, Has (· ∈ [("a" : Str), "b"]) ws
theorem WordsAt.fr {ms : List Addr} {H H' : Hp} {wd : Addr} {ds : List Addr} {wss : List (List (Str × Int))} (h : WordsAt H wd ds wss) (f : Fr ms H H') (n : wd ∉ ms) (nd : ∀ p kvs, p ∈ ms → H p = some (.dK kvs) → False) : WordsAt H' wd ds wss :=
  ⟨f _ _ h.1 n, h.2.1.mono fun p ws e => f _ _ e fun m => nd p _ m e, h.2.2⟩
theorem nd_heap {H : Hp} {c r : Addr} {ps : List Addr} {rs : List Row} {cols : List (List Nat)} (hM : RowsM H r rs) (hc : Cols H c ps cols) : ∀ p kvs, p ∈ r :: ps → H p = some (.dK kvs) → False := fun p kvs m e => by
  rcases List.mem_cons.mp m with z | z
  · obtain ⟨_, e2, _⟩ := hM
    rw [z, e2] at e
    cases e
  · obtain ⟨xs, e2⟩ := hc.at z
    rw [e2] at e
    cases e
def sp_law_done (K : PySem.W.Frag) : Sp := fun vs H Q _ => ∃ (h sh r2 wd c r : Addr) (ps qs ds : List Addr) (cols : List (List Nat)) (rs : List Row) (k : Nat) (wss : List (List (Str × Int))), vs = [.ref h, .ref sh, .ref r2, .int (k : Int), .ref wd] ∧ Both K H h c r2 ps qs cols ∧ SheetAt K H sh r ∧ RowsM H r rs ∧ r ∉ ps ∧ r ∉ qs ∧ r ≠ c ∧ r ≠ r2 ∧ c ≠ r2 ∧ RowsOk (· ∈ [("a" : Str), "b"]) rs ∧ NoLats rs ∧ DotsOk rs cols ∧ k < cols.length ∧ cols.length ≤ 1000 ∧ (lens cols).sum ≤ 5000 ∧ rs.length ≤ 5000 ∧ WordsAt H wd ds wss ∧ wd ∉ r :: ps ∧
  ∀ (qs' : List Addr) (cols' : List (List Nat)) (rs' : List Row) H', Both K H' h c r2 ps qs' cols' → SheetAt K H' sh r → RowsM H' r rs' → r ∉ qs' → RowsOk (· ∈ [("a" : Str), "b"]) rs' → NoLats rs' → DotsOk rs' cols' → cols'.length = cols.length → (lens cols').sum ≤ (lens cols).sum → rs'.length ≤ rs.length + 5 → Fr (r2 :: r :: (ps ++ qs)) H H' → (∀ q ∈ qs', q ∈ qs ∨ H q = none) → Q (.bl true) H'
theorem ok_law_done (T : Top K mg) : FnOk P w K mg base CX0 4 T.a_law_done T.d_law_done ["_law_heap_here", "_law_sheet", "_law_rows", "_law_k", "_law_words"] (sp_law_done K) := by
  refine T.f_law_done.ok sc_law_done (fun vs H Q E h => ?_) (fun cdv A outer s H vs Q E hr h => ?_)
  · obtain ⟨h, sh, r2, wd, c, r, ps, qs, ds, cols, rs, k, wss, rfl, _⟩ := h
    rfl
  obtain ⟨h, sh, r2, wd, c, r, ps, qs, ds, cols, rs, k, wss, rfl, h⟩ := h
  refine ⟨_, (pss_cons (ps_set (i := 5) sc_law_done.nd rfl (.inl rfl) (pe_meth0 (pv 1) T.cl_Sheet T.m_Sheet_rows_now (ok_Sheet_rows_now T) (hr.mono (by decide)) T.b_Sheet_rows_now .nil pass0))
      (pss_cons (ps_set (i := 6) sc_law_done.nd rfl (.inl rfl) (pe_call (ok_law_press T) (hr.mono (by decide)) (by rfl) T.g_law_press T.f_law_press.kp T.b_law_press .nil pass0 (pa_cons (pv 0) (pa_cons (pv 1) (pa_cons (pv 3) pa_nil)))))
      (pss_cons (ps_set (i := 7) sc_law_done.nd rfl (.inl rfl) (pe_meth0 (pv 1) T.cl_Sheet T.m_Sheet_rows_now (ok_Sheet_rows_now T) (hr.mono (by decide)) T.b_Sheet_rows_now .nil pass0))
      (pss_cons (ps_if (pt_cmpR op_lt (pe_callB (c_lenK K) (by rfl) T.z_len PySem.boot_len (pa_cons (pe_ix (ix_listK K) (pv 2) (pv 3) (fun _ _ => rfl)) pa_nil)) pe_int (nomark _)) (pss_one (ps_ret (pe_and (pe_cmpR (op_eqD hr.units) (pv 6) pe_str (nomark _)) (pe_one (pe_cmpR (op_eqD hr.units) (pv 7) (pv 5) (nomark _)))))) pss_nil)
      (pss_cons (ps_if (PW.pt (pw_or (pt_cmpR (op_eqD hr.units) (pv 6) pe_str (nomark _)) (pw_or (pt_not (pt_val (pe_call (ok_law_good T) (hr.mono (by decide)) (by rfl) T.g_law_good T.f_law_good.kp T.b_law_good .nil pass0 (pa_cons (pv 7) (pa_cons (pe_lst (pa_cons pe_str (pa_cons pe_str pa_nil))) pa_nil))))) (pw_or1 (pt_cmpR (op_neD hr.units) (pe_slice sl_list (pv 7) po_none (po_some (pe_callB (c_lenK K) (by rfl) T.z_len PySem.boot_len (pa_cons (pv 5) pa_nil)))) (pv 5) (nomark _)))))) (pss_one (ps_ret pe_bl)) pss_nil)
      (pss_cons (ps_for PassesOwn.never rfl (pi_list (pv 4)) (pg_name (i := 8) sc_law_done.nd rfl (.inl rfl))
      (pss_one (ps_if (pt_not (pt_val (pe_call (ok_law_two T) (hr.mono (by decide)) (by rfl) T.g_law_two T.f_law_two.kp T.b_law_two .nil pass0 (pa_cons (pv 6) (pa_cons (pe_callB (c_lenK K) (by rfl) T.z_len PySem.boot_len (pa_cons (pv 7) pa_nil)) (pa_cons (pe_call (ok_law_bits T) (hr.mono (by decide)) (by rfl) T.g_law_bits T.f_law_bits.kp T.b_law_bits .nil pass0 (pa_cons (pv 7) (pa_cons (pv 8) pa_nil))) (pa_cons (pe_slice sl_list (pe_ix (ix_listK K) (pv 2) (pv 3) (fun _ _ => rfl)) po_none (po_some pe_int)) pa_nil))))))) (pss_one (ps_ret pe_bl)) pss_nil)))
      (pss_cons (ps_asg (pe_op op_cat (pe_slice sl_list (pe_ix (ix_listK K) (pv 2) (pv 3) (fun _ _ => rfl)) (po_some pe_int) po_none) (pe_lst (pa_cons (pe_ix (ix_tupK K) (pv 6) pe_int (fun _ _ => rfl)) pa_nil))) (pg_sub (pv 2) (pv 3) set_list))
      (pss_cons (ps_if (pt_cmpR op_lt (pe_op op_add (pv 3) pe_int) (pe_callB (c_lenK K) (by rfl) T.z_len PySem.boot_len (pa_cons (pv 2) pa_nil)) (nomark _)) (pss_one (ps_expr (pe_bm PySem.F.plainAttrs_list PySem.F.slot_list_append PySem.F.type_list_append mt_append (pe_ix (ix_listK K) (pv 2) (pe_op op_add (pv 3) pe_int) (fun _ _ => rfl)) (pa_cons (pe_ix (ix_tupK K) (pv 6) pe_int (fun _ _ => rfl)) pa_nil)))) pss_nil)
      (pss_one (ps_ret pe_bl)))))))))), ?_⟩
  try dsimp only [cxOf, Cx.nox, Cx.wish]
  simp only [L2.start, List.map_cons, List.map_nil, List.length_cons, List.length_nil, Nat.reduceAdd, Nat.reduceSub, List.replicate_succ, List.replicate_zero, List.cons_append, List.nil_append]
  obtain ⟨hb, hsh, hM, rps, rqs, rc, rr2, cr2, ok, nl, dk, hkl, hcl, hsum, hrl, hwd, wdn, hq⟩ := h
  obtain ⟨C, dxs, es, eC⟩ := id hsh
  obtain rfl := eC.one T.nc_Sheet
  have c1 := T.cl_Sheet
  walk_at "ws"
  refine use_now hsh hM (by omega) fun pb H1 n1 s1 hMb => ?_
  have b1 := hb.same s1
  have hsh1 := hsh.same s1
  have hM1 := hM.same s1
  have hxk : cols[k]? = some cols[k] := List.getElem?_eq_getElem hkl
  have hle : ∀ xs ∈ cols, xs.length ≤ 5000 := fun xs m => by have := lens_le m; omega
  have np := np_heap hM1 b1.heap.2
  have pbn : pb ∉ r :: ps := not_cons (hM.ne n1) (hb.heap.nps n1)
  walk_at "ws"
  refine ⟨h, c, sh, r, ps, cols, rs, k, cols[k], rfl, b1.heap, hsh1, hM1, rps, rc, hxk, fun xs m => by have := hle xs m; omega, by omega, fun x y z t pf H2 exs n2 ha2 hsh2 hM2 f2 hp2 => ?_, fun hlt H2 s2 => ?_⟩
  · have hrows2 := b1.rows.fr f2 (not_cons rr2.symm b1.rp) (fun q m => not_cons (fun z => rqs (by rw [← z]; exact m)) (fun z => b1.pq q z m))
    have hMb2 := hMb.fr f2 pbn np
    have hwd2 := WordsAt.fr (H := H1) ⟨s1 _ _ hwd.1, hwd.2.1.mono fun _ _ e => s1 _ _ e, hwd.2.2⟩ f2 wdn (nd_heap hM1 b1.heap.2)
    rw [exs] at hxk
    obtain ⟨C, dxs2, es2, eC2⟩ := id hsh2
    obtain rfl := eC2.one T.nc_Sheet
    walk_at "ws"
    refine use_now hsh2 hM2 (by rw [List.length_append, pressR_len]; omega) fun pa H3 n3 s3 hMa => ?_
    have hrows3 := hrows2.same s3
    obtain ⟨qk, hqk, hqk3⟩ := hrows3.2.1.get2 hxk
    have hqk3 : H3 qk = some (.lst ((natI (x :: y :: z :: t)).map V.int)) := hqk3
    have hql3 : ((natI (x :: y :: z :: t)).map V.int).length = t.length + 3 := by rw [List.length_map, natI_len]; rfl
    have hr3 := hrows3.1
    have hpf3 : H3 pf = some (.tup [.int ((rs.length + 1 : Nat) : Int), .int ((rs.length + 4 : Nat) : Int)]) := s3 _ _ hp2
    walk_at "ws"
    refine w_ixL (SqL.of hr3) (ref_at hqk) ?_
    walk_at "ws"
    have efew : PyData.eqv (.tuple [.int ((rs.length + 1 : Nat) : Int), .int ((rs.length + 4 : Nat) : Int)]) (.str "few") = false := rfl
    have shf : SeqAt.shaped (.str "few") = true := by decide +kernel
    refine w_eqD (d := .tuple [.int ((rs.length + 1 : Nat) : Int), .int ((rs.length + 4 : Nat) : Int)]) (e := .str "few") (.tup (SqT.of hpf3) (.cons (.int _) (.cons (.int _) .nil))) (.str _) rfl shf ?_
    rw [efew]
    walk_at "ws"
    rename_i pn H4 n4 s4 e4
    have okx := dk _ (List.mem_of_getElem? hxk)
    have hx := okx x (List.mem_cons_self ..)
    have hy := okx y (List.mem_cons_of_mem _ (List.mem_cons_self ..))
    have hz := okx z (List.mem_cons_of_mem _ (List.mem_cons_of_mem _ (List.mem_cons_self ..)))
    have ok' : RowsOk (· ∈ [("a" : Str), "b"]) (rs ++ pressR rs.length x y z) := press_rows ok hx hy hz
    have nl' : NoLats (rs ++ pressR rs.length x y z) := press_nolat nl
    have dk' := dots_press dk hxk
    have hlen' : (rs ++ pressR rs.length x y z).length = rs.length + 5 := by rw [List.length_append]; rfl
    refine ⟨pa, pn, rs ++ pressR rs.length x y z, ["a", "b"], rfl, hMa.same s4, SqL.of e4, ok', nl', by omega, fun H5 s5 => ?_⟩
    have s35 := s4.trans s5
    obtain ⟨psa, era, hAa⟩ := hMa.same s35
    obtain ⟨psb, erb, hAb⟩ := hMb2.same (s3.trans s35)
    have hpbl : (psb.map V.ref).length = rs.length := by rw [List.length_map, hAb.1]
    have hpal : (psa.map V.ref).length = rs.length + 5 := by rw [List.length_map, hAa.1, hlen']
    walk_at "ws"
    rename_i psl H6 n6 s6 e6
    have e6' : H6 psl = some (.lst ((psa.take rs.length).map V.ref)) := by
      rw [e6, hpbl, cut_upto, List.map_take]
    have hAt : A2 (RowAt H6) (psa.take rs.length) rs := by
      have := (hAa.take rs.length)
      rw [List.take_left' rfl] at this
      exact this.mono fun _ _ e => s6 _ _ e
    refine w_neSame (.list (rs.map rowD)) (.lst (SqL.of e6') (dp_rows hAt)) (.lst (SqL.of (s6 _ _ erb)) (dp_rows (hAb.mono fun _ _ e => s6 _ _ e))) (shaped_rows (a_named2 (by decide +kernel) ok)) ?_
    have s26 := s3.trans (s35.trans s6)
    have era6 := s6 _ _ era
    have hMa6 : RowsM H6 pa (rs ++ pressR rs.length x y z) := ⟨psa, era6, hAa.mono fun _ _ e => s6 _ _ e⟩
    have hwd6 := s26 _ _ hwd2.1
    have hpf6 : H6 pf = some (.tup [.int ((rs.length + 1 : Nat) : Int), .int ((rs.length + 4 : Nat) : Int)]) := s26 _ _ hp2
    have rows6 := hrows2.same s26
    have hr6 := rows6.1
    have hqk6 : H6 qk = some (.lst ((natI (x :: y :: z :: t)).map V.int)) := s6 _ _ (s35 _ _ hqk3)
    walk_at "ws"
    refine for_l (ds.map V.ref) (fun i σ' G => ∃ y8 : Option V, σ' = [some (.ref h), some (.ref sh), some (.ref r2), some (.int (k : Int)), some (.ref wd), some (.ref pb), some (.ref pf), some (.ref pa), y8] ∧ Same H6 G) ⟨_, rfl, Same.refl _⟩ (fun i σ' G _ q => ?_) (fun i xv σ' G hxv q => ?_) (fun σ' G q => ?_)
    · obtain ⟨y8, rfl, sm⟩ := q
      exact SqL.of (sm _ _ hwd6)
    · obtain ⟨y8, rfl, sm⟩ := q
      obtain ⟨d, hd, rfl⟩ := get_map hxv
      obtain ⟨ws, hws, hdat⟩ := hwd2.2.1.get hd
      have hdG : G d = some (.dK (wkv ws)) := sm _ _ (s26 _ _ hdat)
      have has := hwd2.2.2 ws (List.mem_of_getElem? hws)
      have eraG := sm _ _ era6
      have hrG := sm _ _ hr6
      walk_at "ws"
      refine ⟨pa, d, _, ws, _, rfl, (hMa6.same sm).read, hdG, ok', nl', has, by omega, fun pb3 G3 n3' s3' e3' => ?_⟩
      have hrG3 := s3' _ _ hrG
      have hqkG3 := s3' _ _ (sm _ _ hqk6)
      walk_at "ws"
      refine w_ixL (SqL.of hrG3) (ref_at hqk) ?_
      walk_at "ws"
      rename_i p3 G4 n4' s4' e4'
      have e4' : G4 p3 = some (.lst ((natI [x, y, z]).map V.int)) := by
        rw [e4', show (some (3 : Int)) = some ((3 : Nat) : Int) from rfl, cut_upto]
        rfl
      have pb' := press_bits ok' hx hy hz (Later.refl _) ws
      have hpfG : PairAt G4 pf (rs.length + 1) (rs.length + 4) := s4' _ _ (s3' _ _ (sm _ _ hpf6))
      refine ⟨pf, pb3, p3, rs.length + 1, rs.length + 4, rs.length + 5, x, y, z, toldL ws (rs ++ pressR rs.length x y z), ?_, hpfG, SqL.of (s4' _ _ e3'), e4', by rw [toldL_len, hlen'], by omega, by omega, by omega, by omega, by omega, pb'.1, pb'.2, fun G5 s5' => ?_⟩
      · rw [hpal]
        rfl
      walk_at "ws"
      exact ⟨_, rfl, sm.trans (s3'.trans (s4'.trans s5'))⟩
    obtain ⟨y8, rfl, sm⟩ := q
    have hrG := sm _ _ hr6
    have hqkG := sm _ _ hqk6
    have hpfG : G pf = some (.tup [.int ((rs.length + 1 : Nat) : Int), .int ((rs.length + 4 : Nat) : Int)]) := sm _ _ hpf6
    have s2G := s26.trans sm
    walk_at "ws"
    have etl : cutV ((natI (x :: y :: z :: t)).map V.int) (some 3) none = (natI t).map V.int := by
      rw [show (some (3 : Int)) = some ((3 : Nat) : Int) from rfl, cut_from _ _ (by rw [hql3]; omega)]
      rfl
    have htl : ((natI t).map V.int).length ≤ 5000 := by
      have := hle _ (List.mem_of_getElem? hxk)
      rw [List.length_map, natI_len]
      simp only [List.length_cons] at this
      omega
    refine w_ixL (SqL.of hrG) (ref_at hqk) ?_
    walk_at "ws"
    · rw [etl]
      simp only [List.length_cons, List.length_nil]
      omega
    intro p9 H9 n9 s9 e9
    rename_i p7 H7 n7 s7 e7 p8 H8 n8 s8 e8
    have e9 : H9 p9 = some (.lst ((natI (t ++ [rs.length + 1])).map V.int)) := by
      rw [e9, etl, ← nat_snoc]
    have s6G := s7.trans (s8.trans s9)
    have n9G : G p9 = none := (s7.trans s8).free n9
    have rows9 := (rows6.same sm).same s6G
    have hr9 := rows9.1
    have ha9 := (ha2.same s2G).same s6G
    have kq : k < (qs.map V.ref).length := by rw [List.length_map]; exact (List.getElem?_eq_some_iff.mp hqk).1
    walk_at "ws"
    refine w_setL hr9 kq ?_
    rw [show (qs.map V.ref).set k (V.ref p9) = (qs.set k p9).map V.ref by rw [List.map_set]]
    have p9r : p9 ≠ r2 := fun z => by rw [z, hrG] at n9G; cases n9G
    have p9q : p9 ∉ qs := fun z => (rows6.same sm).trk p9 (.inr z) n9G
    have p9p : p9 ∉ ps := fun z => (ha2.same s2G).trk p9 (.inr (.inr z)) n9G
    have p9c : p9 ≠ c := fun z => (ha2.same s2G).trk p9 (.inr (.inl z)) n9G
    have p9R : p9 ≠ r := (hM2.same s2G).ne n9G
    have hswap := rows9.swap k e9 p9q p9r
    have fsw : Fr [r2] H9 (upd H9 r2 (.lst ((qs.set k p9).map V.ref))) := Fr.put (List.mem_cons_self ..)
    have hr2 : h ≠ r2 := fun z => by
      obtain ⟨⟨_, _, e, _⟩, _⟩ := ha9
      rw [z, hr9] at e
      cases e
    have ha10 := ha9.fr fsw (by simpa using hr2) (by simpa using cr2) (fun p m => by simpa using fun z => b1.rp (by rw [← z]; exact m))
    have shr2 : sh ≠ r2 := fun z => by
      obtain ⟨_, _, e, _⟩ := (hsh2.same s2G).same s6G
      rw [z, hr9] at e
      cases e
    have sh10 := ((hsh2.same s2G).same s6G).fr fsw (by simpa using shr2)
    have hM10 := ((hM2.same s2G).same s6G).fr fsw (by simpa using rr2) (np_lst hr9)
    have e10 := hp_upd (u := .lst ((qs.set k p9).map V.ref)) p9r e9
    have pfr : pf ≠ r2 := fun z => by rw [z, hrG] at hpfG; cases hpfG
    have hpf10 := fsw _ _ (s6G _ _ hpfG) (by simpa using pfr)
    have f010 : Fr (r2 :: r :: (ps ++ qs)) H (upd H9 r2 (.lst ((qs.set k p9).map V.ref))) := (((Fr.of s1).trans (f2.mono fun m hm => by
      rcases List.mem_cons.mp hm with z | z
      · rw [z]; exact List.mem_cons_of_mem _ (List.mem_cons_self ..)
      · exact List.mem_cons_of_mem _ (List.mem_cons_of_mem _ (List.mem_append_left _ z)))).trans (Fr.of (s2G.trans s6G))).trans (Fr.put (List.mem_cons_self ..))
    have n9H : H p9 = none := by
      cases e : H p9 with
      | none => rfl
      | some o =>
        have := f2 _ _ (s1 _ _ e) (not_cons p9R p9p)
        rw [(s2G).free n9G] at this
        cases this
    generalize upd H9 r2 (.lst ((qs.set k p9).map V.ref)) = G10 at *
    have hr10 := hswap.1
    have hcl' : ((qs.set k p9).map V.ref).length = cols.length := by rw [List.length_map, List.length_set, hb.rows.2.1.1]
    have epress : pressC cols k rs.length t = addC (cols.set k (t ++ [rs.length + 1])) (k + 1) (rs.length + 4) := by
      unfold pressC
      rw [addC_set (cols := cols.set k t) (xs := t) (by rw [List.getElem?_set, if_pos rfl, if_pos hkl]), List.set_set]
    have hsum' : (lens (pressC cols k rs.length t)).sum ≤ (lens cols).sum := by
      rw [lens_press hxk]
      have := sum_step (hs := lens cols) (k := k) (by unfold lens; rw [List.length_map]; exact hkl) (by rw [List.getD_eq_getElem?_getD, lens_get, hxk]; simp)
      omega
    have pqs : ∀ p ∈ ps, p ∉ qs.set k p9 := fun p m z => by
      rcases List.mem_or_eq_of_mem_set z with z | z
      · exact b1.pq p m z
      · exact p9p (by rw [← z]; exact m)
    have rqs' : r ∉ qs.set k p9 := fun z => by
      rcases List.mem_or_eq_of_mem_set z with z | z
      · exact rqs z
      · exact p9R z.symm
    have cqs : c ∉ qs.set k p9 := fun z => by
      rcases List.mem_or_eq_of_mem_set z with z | z
      · exact b1.cq z
      · exact p9c z.symm
    have nqs : ∀ q ∈ qs.set k p9, q ∈ qs ∨ H q = none := fun q z => by
      rcases List.mem_or_eq_of_mem_set z with z | z
      · exact .inl z
      · rw [z]; exact .inr n9H
    walk_at "ws"
    · have hk1 : k + 1 < cols.length := by omega
      obtain ⟨pn2, xs2, g1, g2, g3, g4⟩ := hswap.ix (k := k + 1) (by rw [List.length_set]; exact hk1)
      rw [show (k : Int) + 1 = ((k + 1 : Nat) : Int) from rfl]
      refine w_ixL (SqL.of hr10) g3 ?_
      have g2' : cols[k + 1]? = some xs2 := by
        rw [List.getElem?_set, if_neg (by omega)] at g2
        exact g2
      have hx2 := hle xs2 (List.mem_of_getElem? g2')
      have hz2 : ((natI xs2).map V.int).length ≤ 5000 := by rw [List.length_map, natI_len]; exact hx2
      walk_at "ws"
      rw [nat_snoc]
      have hm := List.mem_of_getElem? g1
      have fp : Fr [pn2] G10 (upd G10 pn2 (.lst ((natI (xs2 ++ [rs.length + 4])).map V.int))) := Fr.put (List.mem_cons_self ..)
      have hput := hswap.put (ys := xs2 ++ [rs.length + 4]) g1
      rw [← addC_set g2, ← epress] at hput
      have hq2 : pn2 ∈ qs := by
        rw [List.getElem?_set, if_neg (by omega)] at g1
        exact List.mem_of_getElem? g1
      refine hq (qs.set k p9) _ _ _ ⟨ha10.fr fp (fun z => by
        obtain ⟨⟨_, _, e, _⟩, _⟩ := ha10
        rw [List.mem_singleton.mp z, g4] at e
        cases e) (fun z => cqs (by rw [List.mem_singleton.mp z]; exact hm)) (fun p m z => pqs p m (by rw [List.mem_singleton.mp z]; exact hm)), hput, pqs, cqs, b1.rp⟩ (sh10.fr fp fun z => by
        obtain ⟨_, _, e, _⟩ := sh10
        rw [List.mem_singleton.mp z, g4] at e
        cases e) (hM10.fr fp (fun z => rqs' (by rw [List.mem_singleton.mp z]; exact hm)) (np_lst g4)) rqs' ok' nl' dk' (pressC_len ..) hsum' (by omega) (f010.trans (Fr.put (List.mem_cons_of_mem _ (List.mem_cons_of_mem _ (List.mem_append_right _ hq2))))) nqs
    · have e1 : pressC cols k rs.length t = cols.set k (t ++ [rs.length + 1]) := by
        rw [epress, addC_no (by rw [List.length_set]; omega)]
      rw [← e1] at hswap
      exact hq (qs.set k p9) _ _ _ ⟨ha10, hswap, pqs, cqs, b1.rp⟩ sh10 hM10 rqs' ok' nl' dk' (pressC_len ..) hsum' (by omega) f010 nqs
  · have b2 := b1.same s2
    have hsh2 := hsh1.same s2
    have hM2 := hM1.same s2
    obtain ⟨C, dxs2, es2, eC2⟩ := id hsh2
    obtain rfl := eC2.one T.nc_Sheet
    walk_at "ws"
    refine use_now hsh2 hM2 (by omega) fun pa H3 n3 s3 hMa => ?_
    have b3 := b2.same s3
    obtain ⟨qk, hqk, hqk3⟩ := b3.rows.2.1.get2 hxk
    have hqk3 : H3 qk = some (.lst ((natI cols[k]).map V.int)) := hqk3
    have hql3 : ((natI cols[k]).map V.int).length = cols[k].length := by rw [List.length_map, natI_len]
    have hr3 := b3.rows.1
    have shf : SeqAt.shaped (.str "few") = true := by decide +kernel
    obtain ⟨psa, era, hAa⟩ := hMa
    obtain ⟨psb, erb, hAb⟩ := (hMb.same s2).same s3
    walk_at "ws"
    refine w_ixL (SqL.of hr3) (ref_at hqk) ?_
    walk_at "ws"
    refine w_eqSame (.str "few") (.str _) (.str _) shf ?_
    walk_at "ws"
    refine w_eqSame (.list (rs.map rowD)) (.lst (SqL.of era) (dp_rows hAa)) (.lst (SqL.of erb) (dp_rows hAb)) (shaped_rows (a_named2 (by decide +kernel) ok)) ?_
    exact hq qs cols rs _ b3 (hsh2.same s3) (hM2.same s3) rqs ok nl dk rfl (Nat.le_refl _) (by omega) (Fr.of (s1.trans (s2.trans s3))) (fun q m => .inl m)

theorem sum_bits {n : Nat} : ∀ {ns : List Int}, (∀ z ∈ ns, Builtin.Int.intBits z ≤ n) → ns.sum.natAbs ≤ ns.length * 2 ^ n
  | [], _ => by simp
  | z :: r, h => by
    have ih := sum_bits (n := n) (ns := r) fun y m => h y (List.mem_cons_of_mem _ m)
    have h0 := (ib_abs z n).mp (h z (List.mem_cons_self ..))
    rw [List.sum_cons, List.length_cons, Nat.add_mul, Nat.one_mul]
    have := Int.natAbs_add_le z r.sum
    omega
theorem sum_bits_le {ns : List Int} {k : Int} (h : ∀ z ∈ ns, Builtin.Int.intBits z ≤ 1048576) (hl : ns.length ≤ 63) (hk : 0 ≤ k ∧ k ≤ 1000) : Builtin.Int.intBits (ns.sum + k) ≤ 1048600 := by
  have a : Builtin.Int.intBits ns.sum ≤ 1048576 + 6 := by
    rw [ib_abs]
    have := sum_bits h
    have e : 2 ^ (1048576 + 6) = 64 * 2 ^ 1048576 := by rw [Nat.pow_add, Nat.mul_comm]
    rw [e]
    generalize hp : 2 ^ 1048576 = p at *
    have pp : 0 < p := by rw [← hp]; exact Nat.pow_pos (by decide)
    refine Nat.lt_of_le_of_lt this ?_
    exact Nat.mul_lt_mul_of_pos_right (by omega) pp
  exact Nat.le_trans (bits_add (n := 1048582) a (Nat.le_trans (intBits_le_64 (by omega) (by omega)) (by decide))) (by decide)
theorem RowsOk.imp {M N : Str → Prop} {rs : List Row} (h : RowsOk M rs) (k : ∀ n, M n → N n) : RowsOk N rs := fun i r e => by
  have := h i r e
  cases r with
  | inn n j => exact ⟨k n this.1, this.2⟩
  | _ => exact this
def sp_law (K : PySem.W.Frag) : Sp := fun vs H Q _ => ∃ (a : Addr) (ns : List Int), vs = [.ref a] ∧ SqL K H a (ns.map V.int) ∧ ns.length ≤ 63 ∧ (∀ z ∈ ns, Builtin.Int.intBits z ≤ 1048576) ∧ ∀ H', Q (.bl true) H'
theorem ok_law (T : Top K mg) : FnOk P w K mg base CX0 5 T.a_law T.d_law ["_law_script"] (sp_law K) := by
  refine T.f_law.ok sc_law (fun vs H Q E h => ?_) (fun cdv A outer s H vs Q E hr h => ?_)
  · obtain ⟨a, ns, rfl, _⟩ := h
    rfl
  obtain ⟨a, ns, rfl, h⟩ := h
  refine ⟨_, (pss_cons (ps_set (i := 1) sc_law.nd rfl (.inl rfl) (pe_slice sl_list (pv 0) po_none (po_some pe_int)))
      (pss_cons (ps_set (i := 2) sc_law.nd rfl (.inl rfl) (pe_make0 T.mk_Sheet (ok_Sheet__init T) (hr.mono (by decide)) (by rfl) T.gc_Sheet T.b_Sheet__init .nil pass0))
      (pss_cons (ps_set (i := 3) sc_law.nd rfl (.inl rfl) (pe_op op_add pe_int (pe_op op_mod (pe_op op_mulI (pe_callB (c_lenK K) (by rfl) T.z_len PySem.boot_len (pa_cons (pv 1) pa_nil)) pe_int) pe_int)))
      (Evl.pss_cut (ps_if (pt_cmpR op_gt (pe_callB (c_lenK K) (by rfl) T.z_len PySem.boot_len (pa_cons (pv 1) pa_nil)) pe_int (nomark _)) (pss_one (ps_set (i := 3) sc_law.nd rfl (.inl rfl) (pe_op op_add pe_int (pe_op op_mod (pe_ix (ix_listK K) (pv 1) pe_int (fun _ _ => rfl)) pe_int)))) pss_nil)
      (pss_cons (ps_asg (pe_call (ok_law_heap T) (hr.mono (by decide)) (by rfl) T.g_law_heap T.f_law_heap.kp T.b_law_heap .nil pass0 (pa_cons (pv 2) (pa_cons (pv 1) (pa_cons (pv 3) (pa_cons pe_int pa_nil))))) (pg_tup (by rfl) (pgs_cons (pg_name (i := 4) sc_law.nd rfl (.inl rfl)) (pgs_cons (pg_name (i := 5) sc_law.nd rfl (.inl rfl)) pgs_nil))))
      (pss_cons (ps_set (i := 6) sc_law.nd rfl (.inl rfl) (pe_lst pa_nil))
      (pss_cons (ps_for PassesOwn.never rfl (pi_range1 (by rfl) T.z_range (pa_cons pe_int pa_nil)) (pg_name (i := 7) sc_law.nd rfl (.inl rfl))
      (pss_cons (ps_set (i := 8) sc_law.nd rfl (.inl rfl) (pe_op op_add (pe_callB (c_sumK K) (by rfl) T.z_sum (by decide +kernel) (pa_cons (pv 1) pa_nil)) (pv 7)))
      (pss_one (ps_expr (pe_bm PySem.F.plainAttrs_list PySem.F.slot_list_append PySem.F.type_list_append mt_append (pv 6) (pa_cons (pe_disp (pps_cons pe_str (pe_op op_mod (pe_call (ok_law_mixed T) (hr.mono (by decide)) (by rfl) T.g_law_mixed T.f_law_mixed.kp T.b_law_mixed .nil pass0 (pa_cons (pv 8) (pa_cons pe_int pa_nil))) (pe_op op_shl pe_int pe_int)) (pps_cons pe_str (pe_op op_mod (pe_call (ok_law_mixed T) (hr.mono (by decide)) (by rfl) T.g_law_mixed T.f_law_mixed.kp T.b_law_mixed .nil pass0 (pa_cons (pv 8) (pa_cons pe_int pa_nil))) (pe_op op_shl pe_int pe_int)) pps_nil)) (by rfl) (by rfl) (fun z => by cases z) (by decide)) pa_nil))))))
      (pss_cons (ps_for PassesOwn.never rfl (pi_list (pe_slice sl_list (pv 1) po_none (po_some pe_int))) (pg_name (i := 9) sc_law.nd rfl (.inl rfl))
      (pss_cons (ps_if (pt_not (pt_val (pe_call (ok_law_done T) (hr.mono (by decide)) (by rfl) T.g_law_done T.f_law_done.kp T.b_law_done .nil pass0 (pa_cons (pv 4) (pa_cons (pv 2) (pa_cons (pv 5) (pa_cons (pe_op op_mod (pe_op op_fdiv (pv 9) pe_int) (pv 3)) (pa_cons (pv 6) pa_nil)))))))) (pss_one (ps_ret pe_bl)) pss_nil)
      (pss_one (ps_if (pt_cmpR (op_neD hr.units) (pe_meth0 (pv 4) T.cl_Heap T.m_Heap_heights (ok_Heap_heights T) (hr.mono (by decide)) T.b_Heap_heights .nil pass0) (pe_lc (own := [("_law_row", 10)]) (g := gName 10) (tt := tYes) (by rfl) sc_law.nd (pi_list (pv 5)) (blkOk_by (N := ["_law_script", "_law_cells", "_law_sheet", "_law_many", "_law_heap_here", "_law_rows", "_law_words", "_law_k", "_law_first", "_law_cell", "_law_row"]) (sc := defScope s_law) (by decide +kernel)) (fun _ _ _ _ _ => (pg_name (i := 10) sc_law.nd rfl (.inl rfl))) (fun _ _ _ _ _ => pts_nil) (fun _ _ _ _ _ => (pe_callB (c_lenK K) (by rfl) T.z_len PySem.boot_len (pa_cons (pv 10) pa_nil)))) (nomark _)) (pss_one (ps_ret pe_bl)) pss_nil))))
      (pss_cons (ps_for PassesOwn.never rfl (pi_range1 (by rfl) T.z_range (pa_cons (pv 3) pa_nil)) (pg_name (i := 7) sc_law.nd rfl (.inl rfl))
      (pss_one (ps_if (pt_cmpR (op_neD hr.units) (pe_meth (pv 4) T.cl_Heap T.m_Heap_column (ok_Heap_column T) (hr.mono (by decide)) T.b_Heap_column .nil pass0 (pa_cons (pv 7) pa_nil)) (pe_ix (ix_listK K) (pv 5) (pv 7) (fun _ _ => rfl)) (nomark _)) (pss_one (ps_ret pe_bl)) pss_nil)))
      (pss_one (ps_ret pe_bl))))))))))), ?_⟩
  try dsimp only [cxOf, Cx.nox, Cx.wish]
  simp only [L2.start, List.map_cons, List.map_nil, List.length_cons, List.length_nil, Nat.reduceAdd, Nat.reduceSub, List.replicate_succ, List.replicate_zero, List.cons_append, List.nil_append]
  obtain ⟨hS, hlen, hb, hfin⟩ := h
  have c1 := T.cl_Sheet
  have c2 := T.cl_Heap
  walk_at "ws"
  rename_i pc H1 n1 s1 e1 s dx H2 n2 nd2 s2 e2
  rw [cut_map] at e1
  have hcb : ∀ z ∈ cutA ns none (some 40), Builtin.Int.intBits z ≤ 1048576 := fun z hz => hb z (cutA_mem hz)
  have hcl : (cutA ns none (some 40)).length ≤ 40 := by
    rw [show (some (40 : Int)) = some ((40 : Nat) : Int) from rfl, cutA_upto, List.length_take]
    omega
  generalize cutA ns none (some 40) = cs at *
  refine ⟨s, T.c_Sheet, dx, rfl, e2, T.nc_Sheet, fun r H3 n3 s3 e3 => ⟨rfl, ?_⟩⟩
  have hs4 : SheetAt K (upd H3 s (.ins T.c_Sheet dx [("rows", .ref r)])) s r := ⟨_, dx, upd_same, T.nc_Sheet⟩
  have rs0 : r ≠ s := fun z => by rw [z, e2] at n3; cases n3
  have er4 : (upd H3 s (.ins T.c_Sheet dx [("rows", .ref r)])) r = some (.lst []) := by rw [upd_ne rs0]; exact e3
  have s14 : Same H1 (upd H3 s (.ins T.c_Sheet dx [("rows", .ref r)])) := same_mut (s2.trans s3) n2
  have n3' : H1 r = none := s2.free n3
  have e14 := s14 _ _ e1
  have pcr : pc ≠ r := fun z => by rw [z, n3'] at e1; cases e1
  generalize upd H3 s (.ins T.c_Sheet dx [("rows", .ref r)]) = H4 at *
  have hcm : (cs.map V.int).length = cs.length := List.length_map ..
  walk_at "ws"
  refine w_cut (fun σ' G' => ∃ many : Nat, 1 ≤ many ∧ many ≤ 8 ∧ σ' = [some (.ref a), some (.ref pc), some (.ref s), some (.int (many : Int)), none, none, none, none, none, none, none] ∧ G' = H4) ?_ fun σ' G' k => ?_
  · walk_at "ws"
    · have h0 : 0 < cs.length := by omega
      refine w_ixL (SqL.of e14) (get_int h0) ?_
      walk_at "ws"
      have m0 := Int.emod_nonneg cs[0] (show (8 : Int) ≠ 0 by decide)
      have m1 := Int.emod_lt_of_pos cs[0] (show (0 : Int) < 8 by decide)
      exact ⟨(1 + cs[0] % 8).toNat, by omega, by omega, by rw [Int.toNat_of_nonneg (by omega)]; rfl, rfl⟩
    · have e0 : cs.length = 0 := by omega
      exact ⟨1, by decide, by decide, by rw [hcm, e0]; rfl, rfl⟩
  obtain ⟨many, hm1, hm8, rfl, rfl⟩ := k
  walk_at "ws"
  refine ⟨s, r, pc, cs, many, _, rfl, hs4, ⟨[], er4, A2.nil⟩, e14, pcr, hcb, by omega, by omega, by omega, by omega, fun t h c r2 ps qs cols rs H5 hboth ht5 hsh5 hM5 ok nl hrl dk hcols hsum rrps rrc rrr2 crr2 fresh nt f5 => ?_⟩
  have e15 := f5 _ _ e14 (by simpa using pcr)
  walk_at "ws"
  rename_i wd H6 n6 s6 e6
  have e16 := s6 _ _ e15
  refine for_r (fun i σ' G => ∃ (ds : List Addr) (wss : List (List (Str × Int))) (y7 y8 : Option V), ds.length = i ∧ σ' = [some (.ref a), some (.ref pc), some (.ref s), some (.int (many : Int)), some (.ref h), some (.ref r2), some (.ref wd), y7, y8, none, none] ∧ Fr [wd] H6 G ∧ WordsAt G wd ds wss) ⟨[], [], _, _, rfl, rfl, Fr.refl, e6, A2.nil, fun ws m => (by cases m)⟩ (fun i σ' G hi q => ?_) (fun σ' G q => ?_)
  · obtain ⟨ds, wss, y7, y8, hdl0, rfl, fG, hw⟩ := q
    have pcwd : pc ≠ wd := fun z => by rw [← z, e15] at n6; cases n6
    have eG := fG _ _ e16 (by simpa using pcwd)
    have hi4 : i < 4 := hi
    have hsb := sum_bits_le hcb (by omega) (k := (i : Int)) (by omega)
    walk_at "ws"
    refine w_sumL (SqL.of eG) ?_
    have hdl : (ds.map V.ref).length ≤ 1000 := by rw [List.length_map]; omega
    have hwd := hw.1
    walk_at "ws"
    rename_i pw G1 nw sw ew v1 ev1 v1a v1b v2 ev2 v2a v2b
    refine w_DspE [(("a" : Str), v1 % (1 * 2 ^ Int.toNat 60)), ("b", v2 % (1 * 2 ^ Int.toNat 60))] (show [("a" : Str), "b"].Nodup by decide +kernel) ew rfl (Nat.le_of_ble_eq_true rfl) fun G2 ew2 fr2 => ?_
    have sG2 := fr2 G sw nw
    have hwd2 := sG2 _ _ hwd
    have has : Has (· ∈ [("a" : Str), "b"]) [(("a" : Str), v1 % (1 * 2 ^ Int.toNat 60)), ("b", v2 % (1 * 2 ^ Int.toNat 60))] := fun n hn => by
      rcases List.mem_cons.mp hn with z | z
      · rw [z]; exact ⟨_, lookW_hit⟩
      · rw [List.mem_singleton.mp z]; exact ⟨_, (lookW_skip (by decide +kernel)).trans lookW_hit⟩
    generalize [(("a" : Str), v1 % (1 * 2 ^ Int.toNat 60)), ("b", v2 % (1 * 2 ^ Int.toNat 60))] = ws at *
    have pww : pw ≠ wd := fun z => by rw [z, hwd] at nw; cases nw
    walk_at "ws"
    refine ⟨ds ++ [pw], wss ++ [ws], _, _, by rw [List.length_append, hdl0]; rfl, rfl, (fG.trans (Fr.of sG2)).trans (Fr.put (List.mem_cons_self ..)), by rw [upd_same, List.map_append]; rfl, ?_, fun w m => ?_⟩
    · refine A2.snoc (hw.2.1.mono fun p w e => hp_upd (fun z => ?_) (sG2 _ _ e)) (hp_upd pww ew2)
      have e : G p = some (.dK (wkv w)) := e
      rw [z, hwd] at e
      cases e
    · rcases List.mem_append.mp m with z | z
      · exact hw.2.2 w z
      · rw [List.mem_singleton.mp z]; exact has
  obtain ⟨ds, wss, y7, y8, hdl0, rfl, fG, hw⟩ := q
  have sG : Same H5 G := fG.same s6 (fun m hm => by rw [List.mem_singleton.mp hm]; exact n6)
  have bG := hboth.same sG
  have hshG := hsh5.same sG
  have hMG := hM5.same sG
  have eG := sG _ _ e15
  walk_at "ws"
  rename_i p24 H7 n7 s7 e7
  rw [cut_map] at e7
  have hcb2 : (cutA cs none (some 24)).length ≤ 24 := by
    rw [show (some (24 : Int)) = some ((24 : Nat) : Int) from rfl, cutA_upto, List.length_take]
    omega
  generalize cutA cs none (some 24) = cs2 at *
  have b7 := bG.same s7
  have wdn : wd ∉ r2 :: r :: (ps ++ qs) := fun z => by
    rcases List.mem_cons.mp z with z | z
    · exact hboth.rows.trk _ (.inl rfl) (by rw [← z]; exact n6)
    · rcases List.mem_cons.mp z with z | z
      · exact (hM5.ne n6) z
      · rcases List.mem_append.mp z with z | z
        · exact hboth.heap.trk _ (.inr (.inr z)) n6
        · exact hboth.rows.trk _ (.inr z) n6
  have p24n : p24 ∉ r2 :: r :: (ps ++ qs) := fun z => by
    rcases List.mem_cons.mp z with z | z
    · exact bG.rows.trk _ (.inl rfl) (by rw [← z]; exact n7)
    · rcases List.mem_cons.mp z with z | z
      · exact (hMG.ne n7) z
      · rcases List.mem_append.mp z with z | z
        · exact bG.heap.trk _ (.inr (.inr z)) n7
        · exact bG.rows.trk _ (.inr z) n7
  have hw7 : WordsAt H7 wd ds wss := ⟨s7 _ _ hw.1, hw.2.1.mono fun _ _ e => s7 _ _ e, hw.2.2⟩
  have hM7 := hMG.same s7
  have ndk : ∀ p kvs, p ∈ r2 :: r :: (ps ++ qs) → H7 p = some (.dK kvs) → False := fun p kvs m e => by
    rcases List.mem_cons.mp m with z | z
    · rw [z, b7.rows.1] at e; cases e
    · rcases List.mem_cons.mp z with z | z
      · obtain ⟨_, e2, _⟩ := hM7
        rw [z, e2] at e; cases e
      · rcases List.mem_append.mp z with z | z
        · obtain ⟨_, e2⟩ := b7.heap.2.at z
          rw [e] at e2; cases e2
        · obtain ⟨_, e2⟩ := b7.rows.at z
          rw [e] at e2; cases e2
  walk_at "ws"
  refine for_l (cs2.map V.int) (fun i σ' G2 => ∃ (qs' : List Addr) (cols' : List (List Nat)) (rs' : List Row) (y9 : Option V), σ' = [some (.ref a), some (.ref pc), some (.ref s), some (.int (many : Int)), some (.ref h), some (.ref r2), some (.ref wd), y7, y8, y9, none] ∧ Both K G2 h c r2 ps qs' cols' ∧ SheetAt K G2 s r ∧ RowsM G2 r rs' ∧ r ∉ qs' ∧ RowsOk (· ∈ [("a" : Str), "b"]) rs' ∧ NoLats rs' ∧ DotsOk rs' cols' ∧ cols'.length = many ∧ (lens cols').sum ≤ 60 ∧ rs'.length ≤ 60 + 5 * i ∧ Fr (r2 :: r :: (ps ++ qs)) H7 G2 ∧ (∀ q ∈ qs', q ∈ qs ∨ H7 q = none))
    ⟨qs, cols, rs, _, rfl, b7, hshG.same s7, hM7, fun z => rrps (List.mem_append_right _ z), ok.imp fun n m => by rw [List.mem_singleton.mp m]; exact List.mem_cons_self .., nl, dk, hcols, hsum, by omega, Fr.refl, fun q m => .inl m⟩ (fun i σ' G2 _ q => ?_) (fun i x σ' G2 hx q => ?_) (fun σ' G2 q => ?_)
  · obtain ⟨qs', cols', rs', y9, rfl, _, _, _, _, _, _, _, _, _, _, f2, _⟩ := q
    exact SqL.of (f2 _ _ e7 p24n)
  · obtain ⟨qs', cols', rs', y9, rfl, b2, hsh2, hM2, rq2, ok2, nl2, dk2, hc2, hs2, hr2, f2, nq2⟩ := q
    obtain ⟨z, hz, rfl⟩ := get_map hx
    have hi := (List.getElem?_eq_some_iff.mp hz).1
    have z0 := Int.emod_nonneg (z / 8) (show (many : Int) ≠ 0 by omega)
    have z1 := Int.emod_lt_of_pos (z / 8) (show (0 : Int) < (many : Int) by omega)
    obtain ⟨k, hk⟩ := Int.eq_ofNat_of_zero_le z0
    have hw2 := WordsAt.fr hw7 f2 wdn ndk
    walk_at "ws"
    rw [hk] at z1 ⊢
    refine ⟨h, s, r2, wd, c, r, ps, qs', ds, cols', rs', k, wss, rfl, b2, hsh2, hM2, (fun z => rrps (List.mem_append_left _ z)), rq2, rrc, rrr2, crr2, ok2, nl2, dk2, by omega, by omega, by omega, by omega, hw2, fun z => wdn (List.mem_cons_of_mem _ (by
      rcases List.mem_cons.mp z with z | z
      · rw [z]; exact List.mem_cons_self ..
      · exact List.mem_cons_of_mem _ (List.mem_append_left _ z))), fun qs3 cols3 rs3 H8 b8 hsh8 hM8 rq8 ok8 nl8 dk8 hc8 hs8 hr8 f8 nq8 => ?_⟩
    have f28 : Fr (r2 :: r :: (ps ++ qs)) H7 H8 := fun b o e n => f8 b o (f2 b o e n) fun m => n (by
      rcases List.mem_cons.mp m with z | z
      · rw [z]; exact List.mem_cons_self ..
      · rcases List.mem_cons.mp z with z | z
        · rw [z]; exact List.mem_cons_of_mem _ (List.mem_cons_self ..)
        · rcases List.mem_append.mp z with z | z
          · exact List.mem_cons_of_mem _ (List.mem_cons_of_mem _ (List.mem_append_left _ z))
          · rcases nq2 b z with z | z
            · exact List.mem_cons_of_mem _ (List.mem_cons_of_mem _ (List.mem_append_right _ z))
            · rw [z] at e; cases e)
    have nq28 : ∀ q ∈ qs3, q ∈ qs ∨ H7 q = none := fun q m => by
      rcases nq8 q m with z | z
      · exact nq2 q z
      · by_cases w : q ∈ qs
        · exact .inl w
        · refine .inr ?_
          cases e : H7 q with
          | none => rfl
          | some o =>
            have w2 : q ∉ r2 :: r :: (ps ++ qs) := fun m => by
              rcases List.mem_cons.mp m with y | y
              · rw [y, b2.rows.1] at z; cases z
              · rcases List.mem_cons.mp y with y | y
                · exact hM2.ne z y
                · rcases List.mem_append.mp y with y | y
                  · exact b2.heap.trk _ (.inr (.inr y)) z
                  · exact w y
            rw [f2 _ _ e w2] at z
            cases z
    obtain ⟨⟨C, dxh, eh8, eC⟩, _⟩ := id b8.heap
    obtain rfl := eC.one T.nc_Heap
    have hll8 : (lens cols3).length = cols3.length := List.length_map ..
    have hrows8 := b8.rows.1
    have hqm8 : (qs3.map V.ref).length = cols3.length := by rw [List.length_map, b8.rows.2.1.1]
    walk_at "ws"
    refine ⟨h, c, ps, cols3, rfl, b8.heap, by omega, fun p9 H9 n9 s9 e9 => ?_⟩
    have e9 : H9 p9 = some (.lst ((natI (lens cols3)).map V.int)) := e9
    have b9 := b8.same s9
    have hrows9 := b9.rows.1
    walk_at "ws"
    refine lc_l (qs3.map V.ref) ((natI (lens cols3)).map V.int) (by rw [hqm8, List.length_map, natI_len, hll8]) (SqL.of hrows9) (by omega) (fun x => rfl) (fun j x y G' Q' hx hy sm k => ?_) (fun p10 H10 n10 s10 e10 => ?_)
    · obtain ⟨q, hq, rfl⟩ := get_map hx
      obtain ⟨xs, hxs, e⟩ := b9.rows.2.1.get hq
      have e' := sm _ _ (show H9 q = some (.lst ((natI xs).map V.int)) from e)
      rw [natI_map, lens, List.getElem?_map, List.getElem?_map, hxs] at hy
      cases hy
      walk_at "ws"
      rw [List.length_map, natI_len]
      exact k
    walk_at "ws"
    refine w_neSame (.list ((natI (lens cols3)).map PyData.int)) (.lst (SqL.of (s10 _ _ e9)) (dp_ints _)) (.lst (SqL.of e10) (dp_ints _)) (shaped_ints _) ?_
    walk_at "ws"
    have s810 := s9.trans s10
    exact ⟨qs3, cols3, rs3, _, rfl, b8.same s810, hsh8.same s810, hM8.same s810, rq8, ok8, nl8, dk8, by omega, by omega, by omega, f28.trans (Fr.of s810), nq28⟩
  · obtain ⟨qs', cols', rs', y9, rfl, b2, hsh2, hM2, rq2, ok2, nl2, dk2, hc2, hs2, hr2, f2, nq2⟩ := q
    obtain ⟨⟨C, dxh, eh2, eC⟩, _⟩ := id b2.heap
    obtain rfl := eC.one T.nc_Heap
    walk_at "ws"
    refine for_r (fun i σ' G3 => ∃ y7 : Option V, σ' = [some (.ref a), some (.ref pc), some (.ref s), some (.int (many : Int)), some (.ref h), some (.ref r2), some (.ref wd), y7, y8, y9, none] ∧ Same G2 G3) ⟨_, rfl, Same.refl _⟩ (fun i σ' G3 hi q => ?_) (fun σ' G3 q => ?_)
    · obtain ⟨y7, rfl, sm⟩ := q
      have b3 := b2.same sm
      have hi' : i < cols'.length := by omega
      obtain ⟨p, xs, g1, g2, g3, g4⟩ := b3.rows.ix hi'
      have eh3 := sm _ _ eh2
      have hr3 := b3.rows.1
      walk_at "ws"
      refine ⟨h, c, ps, cols', i, xs, rfl, b3.heap, g2, fun p11 H11 n11 s11 e11 => ?_⟩
      have hr11 := s11 _ _ hr3
      walk_at "ws"
      refine w_ixL (SqL.of hr11) g3 ?_
      refine w_neSame (.list ((natI xs).map PyData.int)) (.lst (SqL.of e11) (dp_ints _)) (.lst (SqL.of (s11 _ _ g4)) (dp_ints _)) (shaped_ints _) ?_
      walk_at "ws"
      exact ⟨_, rfl, sm.trans s11⟩
    · obtain ⟨y7, rfl, sm⟩ := q
      walk_at "ws"
      exact hfin _

end
theorem end_sp_law {K : PySem.W.Frag} {H : Hp} {a : Addr} {ns : List Int} (hl : ns.length ≤ 63) (hb : ∀ z ∈ ns, Builtin.Int.intBits z ≤ 1048576) (_ : Only H) (hS : SqL K H a (ns.map V.int)) : sp_law K [.ref a] H (fun v _ => v = .bl true) fun _ _ _ => False :=
  ⟨a, ns, rfl, hS, hl, hb, fun _ => rfl⟩
theorem all_mk {l : PySem.W.OpenLaw} {w : World} {K : PySem.W.Frag} {h : Heap} {mg : Str → Option Value} {fa ha0 ha1 ha2 ha3 ha4 ha5 ha6 ha7 ha8 ha9 ha10 ha11 ha12 ha13 ha14 ha15 ha16 ha17 c_PressError c_TooFew c_TooMany c_TooWide c_NoFormula c_NoName c_NoLine c_NoCircuit c_OutOfWidth c_Heap c_Sheet : Addr} (X : K.In h) (G : h.Ns mainGlobals mg) (hfa : mg "law" = some (.ref fa))
    {od0 an0 od1 an1 od2 an2 od3 an3 od4 an4 od5 an5 od6 an6 od7 an7 od8 an8 od9 an9 od10 an10 od11 an11 od12 an12 od13 an13 od14 an14 od15 an15 od16 an16 od17 an17 : Option Addr} {shl0 shl1 shl2 shl3 shl4 shl5 shl6 shl7 shl8 shl9 shl10 shl11 shl12 shl13 shl14 shl15 shl16 shl17 : Array (Option Value)} {oc0 kV0 dc0 pm0 cd0 ct0 oc1 kV1 dc1 pm1 cd1 ct1 oc2 kV2 dc2 pm2 cd2 ct2 oc3 kV3 dc3 pm3 cd3 ct3 oc4 kV4 dc4 pm4 cd4 ct4 oc5 kV5 dc5 pm5 cd5 ct5 oc6 kV6 dc6 pm6 cd6 ct6 oc7 kV7 dc7 pm7 cd7 ct7 oc8 kV8 dc8 pm8 cd8 ct8 oc9 kV9 dc9 pm9 cd9 ct9 oc10 kV10 dc10 pm10 cd10 ct10 oc11 kV11 dc11 pm11 cd11 ct11 oc12 kV12 dc12 pm12 cd12 ct12 oc13 kV13 dc13 pm13 cd13 ct13 oc14 kV14 dc14 pm14 cd14 ct14 oc15 kV15 dc15 pm15 cd15 ct15 oc16 kV16 dc16 pm16 cd16 ct16 oc17 kV17 dc17 pm17 cd17 ct17 : Value}
    (hg0 : PySem.W.findIn K (.ref c_Heap) "__init__" = some (some (.ref ha0)))
    (hi0 : PySem.W.isFn K (.ref ha0) = true)
    (hl0 : K.lookup ha0 = some ⟨oc0, od0, .func (PySem.W.fnOf "__init__" "Heap.__init__" (defArgs s_Heap__init) (defBody s_Heap__init) (defScope s_Heap__init) .none kV0 dc0 pm0 an0 cd0 ct0), shl0⟩)
    (hk0 : PySem.W.codeIn K cd0 "Heap.__init__" = true)
    (hp0 : PySem.W.keepIn K (.ref ha0) = true)
    (hg1 : PySem.W.findIn K (.ref c_Heap) "put" = some (some (.ref ha1)))
    (hi1 : PySem.W.isFn K (.ref ha1) = true)
    (hl1 : K.lookup ha1 = some ⟨oc1, od1, .func (PySem.W.fnOf "put" "Heap.put" (defArgs s_Heap_put) (defBody s_Heap_put) (defScope s_Heap_put) .none kV1 dc1 pm1 an1 cd1 ct1), shl1⟩)
    (hk1 : PySem.W.codeIn K cd1 "Heap.put" = true)
    (hp1 : PySem.W.keepIn K (.ref ha1) = true)
    (hg2 : PySem.W.findIn K (.ref c_Heap) "heights" = some (some (.ref ha2)))
    (hi2 : PySem.W.isFn K (.ref ha2) = true)
    (hl2 : K.lookup ha2 = some ⟨oc2, od2, .func (PySem.W.fnOf "heights" "Heap.heights" (defArgs s_Heap_heights) (defBody s_Heap_heights) (defScope s_Heap_heights) .none kV2 dc2 pm2 an2 cd2 ct2), shl2⟩)
    (hk2 : PySem.W.codeIn K cd2 "Heap.heights" = true)
    (hp2 : PySem.W.keepIn K (.ref ha2) = true)
    (hg3 : PySem.W.findIn K (.ref c_Heap) "column" = some (some (.ref ha3)))
    (hi3 : PySem.W.isFn K (.ref ha3) = true)
    (hl3 : K.lookup ha3 = some ⟨oc3, od3, .func (PySem.W.fnOf "column" "Heap.column" (defArgs s_Heap_column) (defBody s_Heap_column) (defScope s_Heap_column) .none kV3 dc3 pm3 an3 cd3 ct3), shl3⟩)
    (hk3 : PySem.W.codeIn K cd3 "Heap.column" = true)
    (hp3 : PySem.W.keepIn K (.ref ha3) = true)
    (hg4 : PySem.W.findIn K (.ref c_Heap) "press" = some (some (.ref ha4)))
    (hi4 : PySem.W.isFn K (.ref ha4) = true)
    (hl4 : K.lookup ha4 = some ⟨oc4, od4, .func (PySem.W.fnOf "press" "Heap.press" (defArgs s_Heap_press) (defBody s_Heap_press) (defScope s_Heap_press) .none kV4 dc4 pm4 an4 cd4 ct4), shl4⟩)
    (hk4 : PySem.W.codeIn K cd4 "Heap.press" = true)
    (hp4 : PySem.W.keepIn K (.ref ha4) = true)
    (hg5 : PySem.W.findIn K (.ref c_Sheet) "__init__" = some (some (.ref ha5)))
    (hi5 : PySem.W.isFn K (.ref ha5) = true)
    (hl5 : K.lookup ha5 = some ⟨oc5, od5, .func (PySem.W.fnOf "__init__" "Sheet.__init__" (defArgs s_Sheet__init) (defBody s_Sheet__init) (defScope s_Sheet__init) .none kV5 dc5 pm5 an5 cd5 ct5), shl5⟩)
    (hk5 : PySem.W.codeIn K cd5 "Sheet.__init__" = true)
    (hp5 : PySem.W.keepIn K (.ref ha5) = true)
    (hg6 : PySem.W.findIn K (.ref c_Sheet) "add" = some (some (.ref ha6)))
    (hi6 : PySem.W.isFn K (.ref ha6) = true)
    (hl6 : K.lookup ha6 = some ⟨oc6, od6, .func (PySem.W.fnOf "add" "Sheet.add" (defArgs s_Sheet_add) (defBody s_Sheet_add) (defScope s_Sheet_add) .none kV6 dc6 pm6 an6 cd6 ct6), shl6⟩)
    (hk6 : PySem.W.codeIn K cd6 "Sheet.add" = true)
    (hp6 : PySem.W.keepIn K (.ref ha6) = true)
    (hg7 : PySem.W.findIn K (.ref c_Sheet) "rows_now" = some (some (.ref ha7)))
    (hi7 : PySem.W.isFn K (.ref ha7) = true)
    (hl7 : K.lookup ha7 = some ⟨oc7, od7, .func (PySem.W.fnOf "rows_now" "Sheet.rows_now" (defArgs s_Sheet_rows_now) (defBody s_Sheet_rows_now) (defScope s_Sheet_rows_now) .none kV7 dc7 pm7 an7 cd7 ct7), shl7⟩)
    (hk7 : PySem.W.codeIn K cd7 "Sheet.rows_now" = true)
    (hp7 : PySem.W.keepIn K (.ref ha7) = true)
    (hg8 : PySem.W.nsIn K mainGlobals "_law_mixed" = some (some (.ref ha8)))
    (hl8 : K.lookup ha8 = some ⟨oc8, od8, .func (PySem.W.fnOf "_law_mixed" "_law_mixed" (defArgs s_law_mixed) (defBody s_law_mixed) (defScope s_law_mixed) .none kV8 dc8 pm8 an8 cd8 ct8), shl8⟩)
    (hk8 : PySem.W.codeIn K cd8 "_law_mixed" = true)
    (hp8 : PySem.W.keepIn K (.ref ha8) = true)
    (hg9 : PySem.W.nsIn K mainGlobals "_law_whole" = some (some (.ref ha9)))
    (hl9 : K.lookup ha9 = some ⟨oc9, od9, .func (PySem.W.fnOf "_law_whole" "_law_whole" (defArgs s_law_whole) (defBody s_law_whole) (defScope s_law_whole) .none kV9 dc9 pm9 an9 cd9 ct9), shl9⟩)
    (hk9 : PySem.W.codeIn K cd9 "_law_whole" = true)
    (hp9 : PySem.W.keepIn K (.ref ha9) = true)
    (hg10 : PySem.W.nsIn K mainGlobals "_law_bits" = some (some (.ref ha10)))
    (hl10 : K.lookup ha10 = some ⟨oc10, od10, .func (PySem.W.fnOf "_law_bits" "_law_bits" (defArgs s_law_bits) (defBody s_law_bits) (defScope s_law_bits) .none kV10 dc10 pm10 an10 cd10 ct10), shl10⟩)
    (hk10 : PySem.W.codeIn K cd10 "_law_bits" = true)
    (hp10 : PySem.W.keepIn K (.ref ha10) = true)
    (hg11 : PySem.W.nsIn K mainGlobals "_law_gate" = some (some (.ref ha11)))
    (hl11 : K.lookup ha11 = some ⟨oc11, od11, .func (PySem.W.fnOf "_law_gate" "_law_gate" (defArgs s_law_gate) (defBody s_law_gate) (defScope s_law_gate) .none kV11 dc11 pm11 an11 cd11 ct11), shl11⟩)
    (hk11 : PySem.W.codeIn K cd11 "_law_gate" = true)
    (hp11 : PySem.W.keepIn K (.ref ha11) = true)
    (hg12 : PySem.W.nsIn K mainGlobals "_law_good" = some (some (.ref ha12)))
    (hl12 : K.lookup ha12 = some ⟨oc12, od12, .func (PySem.W.fnOf "_law_good" "_law_good" (defArgs s_law_good) (defBody s_law_good) (defScope s_law_good) .none kV12 dc12 pm12 an12 cd12 ct12), shl12⟩)
    (hk12 : PySem.W.codeIn K cd12 "_law_good" = true)
    (hp12 : PySem.W.keepIn K (.ref ha12) = true)
    (hg13 : PySem.W.nsIn K mainGlobals "_law_heap" = some (some (.ref ha13)))
    (hl13 : K.lookup ha13 = some ⟨oc13, od13, .func (PySem.W.fnOf "_law_heap" "_law_heap" (defArgs s_law_heap) (defBody s_law_heap) (defScope s_law_heap) .none kV13 dc13 pm13 an13 cd13 ct13), shl13⟩)
    (hk13 : PySem.W.codeIn K cd13 "_law_heap" = true)
    (hp13 : PySem.W.keepIn K (.ref ha13) = true)
    (hg14 : PySem.W.nsIn K mainGlobals "_law_press" = some (some (.ref ha14)))
    (hl14 : K.lookup ha14 = some ⟨oc14, od14, .func (PySem.W.fnOf "_law_press" "_law_press" (defArgs s_law_press) (defBody s_law_press) (defScope s_law_press) .none kV14 dc14 pm14 an14 cd14 ct14), shl14⟩)
    (hk14 : PySem.W.codeIn K cd14 "_law_press" = true)
    (hp14 : PySem.W.keepIn K (.ref ha14) = true)
    (hg15 : PySem.W.nsIn K mainGlobals "_law_two" = some (some (.ref ha15)))
    (hl15 : K.lookup ha15 = some ⟨oc15, od15, .func (PySem.W.fnOf "_law_two" "_law_two" (defArgs s_law_two) (defBody s_law_two) (defScope s_law_two) .none kV15 dc15 pm15 an15 cd15 ct15), shl15⟩)
    (hk15 : PySem.W.codeIn K cd15 "_law_two" = true)
    (hp15 : PySem.W.keepIn K (.ref ha15) = true)
    (hg16 : PySem.W.nsIn K mainGlobals "_law_done" = some (some (.ref ha16)))
    (hl16 : K.lookup ha16 = some ⟨oc16, od16, .func (PySem.W.fnOf "_law_done" "_law_done" (defArgs s_law_done) (defBody s_law_done) (defScope s_law_done) .none kV16 dc16 pm16 an16 cd16 ct16), shl16⟩)
    (hk16 : PySem.W.codeIn K cd16 "_law_done" = true)
    (hp16 : PySem.W.keepIn K (.ref ha16) = true)
    (hg17 : PySem.W.nsIn K mainGlobals "law" = some (some (.ref ha17)))
    (hl17 : K.lookup ha17 = some ⟨oc17, od17, .func (PySem.W.fnOf "law" "law" (defArgs s_law) (defBody s_law) (defScope s_law) .none kV17 dc17 pm17 an17 cd17 ct17), shl17⟩)
    (hk17 : PySem.W.codeIn K cd17 "law" = true)
    (hp17 : PySem.W.keepIn K (.ref ha17) = true)
    (gc_PressError : PySem.W.nsIn K mainGlobals "PressError" = some (some (.ref c_PressError)))
    (kc_PressError : PySem.W.keepIn K (.ref c_PressError) = true)
    (x_PressError : PySem.W.excIn K c_PressError [.type "ValueError", .type "Exception", .type "BaseException", .type "object"] "ValueError.__new__" = true)
    (xb_PressError : PySem.W.subIn K (.ref c_PressError) (.type "BaseException") = some true)
    (xt_PressError : PySem.W.typeIn K (.ref c_PressError) = some (.type "type"))
    (ehd_PressError : PySem.W.hasDictIn K c_PressError = true)
    (gc_TooFew : PySem.W.nsIn K mainGlobals "TooFew" = some (some (.ref c_TooFew)))
    (kc_TooFew : PySem.W.keepIn K (.ref c_TooFew) = true)
    (x_TooFew : PySem.W.excIn K c_TooFew [.type "ValueError", .type "Exception", .type "BaseException", .type "object"] "ValueError.__new__" = true)
    (xb_TooFew : PySem.W.subIn K (.ref c_TooFew) (.type "BaseException") = some true)
    (xt_TooFew : PySem.W.typeIn K (.ref c_TooFew) = some (.type "type"))
    (ehd_TooFew : PySem.W.hasDictIn K c_TooFew = true)
    (ega_TooFew : PySem.W.findIn K (.ref c_TooFew) "__getattribute__" = some (some (.builtin "BaseException.__getattribute__")))
    (egg_TooFew : PySem.W.findIn K (.ref c_TooFew) "__getattr__" = some none)
    (ecl_TooFew : PySem.W.findIn K (.ref c_TooFew) "__class__" = some (some (.builtin "object.__class__")))
    (esp_TooFew : PySem.W.specialIn K (.builtin "object.__class__") "__get__" = some (some (.builtin "getset_descriptor.__get__")))
    (etk_TooFew : PySem.W.takesIn K (.builtin "object.__class__") = some true)
    (emr_TooFew : PySem.W.mroIn K c_TooFew (.type "object") = some true)
    (sv_TooFew : PySem.W.subIn K (.ref c_TooFew) (.type "ValueError") = some true)
    (s_TooFew_PressError : PySem.W.subIn K (.ref c_TooFew) (.ref c_PressError) = some true)
    (s_TooFew_TooFew : PySem.W.subIn K (.ref c_TooFew) (.ref c_TooFew) = some true)
    (s_TooFew_TooMany : PySem.W.subIn K (.ref c_TooFew) (.ref c_TooMany) = some false)
    (s_TooFew_TooWide : PySem.W.subIn K (.ref c_TooFew) (.ref c_TooWide) = some false)
    (s_TooFew_NoFormula : PySem.W.subIn K (.ref c_TooFew) (.ref c_NoFormula) = some false)
    (s_TooFew_NoName : PySem.W.subIn K (.ref c_TooFew) (.ref c_NoName) = some false)
    (s_TooFew_NoLine : PySem.W.subIn K (.ref c_TooFew) (.ref c_NoLine) = some false)
    (s_TooFew_NoCircuit : PySem.W.subIn K (.ref c_TooFew) (.ref c_NoCircuit) = some false)
    (s_TooFew_OutOfWidth : PySem.W.subIn K (.ref c_TooFew) (.ref c_OutOfWidth) = some false)
    (gc_TooMany : PySem.W.nsIn K mainGlobals "TooMany" = some (some (.ref c_TooMany)))
    (kc_TooMany : PySem.W.keepIn K (.ref c_TooMany) = true)
    (x_TooMany : PySem.W.excIn K c_TooMany [.type "ValueError", .type "Exception", .type "BaseException", .type "object"] "ValueError.__new__" = true)
    (xb_TooMany : PySem.W.subIn K (.ref c_TooMany) (.type "BaseException") = some true)
    (xt_TooMany : PySem.W.typeIn K (.ref c_TooMany) = some (.type "type"))
    (ehd_TooMany : PySem.W.hasDictIn K c_TooMany = true)
    (gc_TooWide : PySem.W.nsIn K mainGlobals "TooWide" = some (some (.ref c_TooWide)))
    (kc_TooWide : PySem.W.keepIn K (.ref c_TooWide) = true)
    (x_TooWide : PySem.W.excIn K c_TooWide [.type "ValueError", .type "Exception", .type "BaseException", .type "object"] "ValueError.__new__" = true)
    (xb_TooWide : PySem.W.subIn K (.ref c_TooWide) (.type "BaseException") = some true)
    (xt_TooWide : PySem.W.typeIn K (.ref c_TooWide) = some (.type "type"))
    (ehd_TooWide : PySem.W.hasDictIn K c_TooWide = true)
    (gc_NoFormula : PySem.W.nsIn K mainGlobals "NoFormula" = some (some (.ref c_NoFormula)))
    (kc_NoFormula : PySem.W.keepIn K (.ref c_NoFormula) = true)
    (x_NoFormula : PySem.W.excIn K c_NoFormula [.type "ValueError", .type "Exception", .type "BaseException", .type "object"] "ValueError.__new__" = true)
    (xb_NoFormula : PySem.W.subIn K (.ref c_NoFormula) (.type "BaseException") = some true)
    (xt_NoFormula : PySem.W.typeIn K (.ref c_NoFormula) = some (.type "type"))
    (ehd_NoFormula : PySem.W.hasDictIn K c_NoFormula = true)
    (gc_NoName : PySem.W.nsIn K mainGlobals "NoName" = some (some (.ref c_NoName)))
    (kc_NoName : PySem.W.keepIn K (.ref c_NoName) = true)
    (x_NoName : PySem.W.excIn K c_NoName [.type "ValueError", .type "Exception", .type "BaseException", .type "object"] "ValueError.__new__" = true)
    (xb_NoName : PySem.W.subIn K (.ref c_NoName) (.type "BaseException") = some true)
    (xt_NoName : PySem.W.typeIn K (.ref c_NoName) = some (.type "type"))
    (ehd_NoName : PySem.W.hasDictIn K c_NoName = true)
    (gc_NoLine : PySem.W.nsIn K mainGlobals "NoLine" = some (some (.ref c_NoLine)))
    (kc_NoLine : PySem.W.keepIn K (.ref c_NoLine) = true)
    (x_NoLine : PySem.W.excIn K c_NoLine [.type "ValueError", .type "Exception", .type "BaseException", .type "object"] "ValueError.__new__" = true)
    (xb_NoLine : PySem.W.subIn K (.ref c_NoLine) (.type "BaseException") = some true)
    (xt_NoLine : PySem.W.typeIn K (.ref c_NoLine) = some (.type "type"))
    (ehd_NoLine : PySem.W.hasDictIn K c_NoLine = true)
    (gc_NoCircuit : PySem.W.nsIn K mainGlobals "NoCircuit" = some (some (.ref c_NoCircuit)))
    (kc_NoCircuit : PySem.W.keepIn K (.ref c_NoCircuit) = true)
    (x_NoCircuit : PySem.W.excIn K c_NoCircuit [.type "ValueError", .type "Exception", .type "BaseException", .type "object"] "ValueError.__new__" = true)
    (xb_NoCircuit : PySem.W.subIn K (.ref c_NoCircuit) (.type "BaseException") = some true)
    (xt_NoCircuit : PySem.W.typeIn K (.ref c_NoCircuit) = some (.type "type"))
    (ehd_NoCircuit : PySem.W.hasDictIn K c_NoCircuit = true)
    (gc_OutOfWidth : PySem.W.nsIn K mainGlobals "OutOfWidth" = some (some (.ref c_OutOfWidth)))
    (kc_OutOfWidth : PySem.W.keepIn K (.ref c_OutOfWidth) = true)
    (x_OutOfWidth : PySem.W.excIn K c_OutOfWidth [.type "ValueError", .type "Exception", .type "BaseException", .type "object"] "ValueError.__new__" = true)
    (xb_OutOfWidth : PySem.W.subIn K (.ref c_OutOfWidth) (.type "BaseException") = some true)
    (xt_OutOfWidth : PySem.W.typeIn K (.ref c_OutOfWidth) = some (.type "type"))
    (ehd_OutOfWidth : PySem.W.hasDictIn K c_OutOfWidth = true)
    (gc_Heap : PySem.W.nsIn K mainGlobals "Heap" = some (some (.ref c_Heap)))
    (kc_Heap : PySem.W.keepIn K (.ref c_Heap) = true)
    (pg_Heap : PySem.W.plainGet K c_Heap Str.empty = true)
    (hd_Heap : PySem.W.hasDictIn K c_Heap = true)
    (po_Heap : PySem.W.plainOver K c_Heap = true)
    (sa_Heap : PySem.W.findIn K (.ref c_Heap) "__setattr__" = some (some (.builtin "object.__setattr__")))
    (mk_Heap : PySem.W.makesIn K c_Heap = true)
    (n_Heap_many : PySem.W.findIn K (.ref c_Heap) "many" = some none)
    (n_Heap_columns : PySem.W.findIn K (.ref c_Heap) "columns" = some none)
    (gc_Sheet : PySem.W.nsIn K mainGlobals "Sheet" = some (some (.ref c_Sheet)))
    (kc_Sheet : PySem.W.keepIn K (.ref c_Sheet) = true)
    (pg_Sheet : PySem.W.plainGet K c_Sheet Str.empty = true)
    (hd_Sheet : PySem.W.hasDictIn K c_Sheet = true)
    (po_Sheet : PySem.W.plainOver K c_Sheet = true)
    (sa_Sheet : PySem.W.findIn K (.ref c_Sheet) "__setattr__" = some (some (.builtin "object.__setattr__")))
    (mk_Sheet : PySem.W.makesIn K c_Sheet = true)
    (n_Sheet_rows : PySem.W.findIn K (.ref c_Sheet) "rows" = some none)
    (z_ValueError : PySem.W.nsIn K mainGlobals "ValueError" = some none)
    (z_bool : PySem.W.nsIn K mainGlobals "bool" = some none)
    (z_enumerate : PySem.W.nsIn K mainGlobals "enumerate" = some none)
    (z_int : PySem.W.nsIn K mainGlobals "int" = some none)
    (z_isinstance : PySem.W.nsIn K mainGlobals "isinstance" = some none)
    (z_len : PySem.W.nsIn K mainGlobals "len" = some none)
    (z_list : PySem.W.nsIn K mainGlobals "list" = some none)
    (z_max : PySem.W.nsIn K mainGlobals "max" = some none)
    (z_range : PySem.W.nsIn K mainGlobals "range" = some none)
    (z_str : PySem.W.nsIn K mainGlobals "str" = some none)
    (z_sum : PySem.W.nsIn K mainGlobals "sum" = some none)
    (z_tuple : PySem.W.nsIn K mainGlobals "tuple" = some none) :
    ∃ fd : FuncData, (∀ (s : Shared) (v : Value), BindsTo s fd ⟨[v], []⟩ [("_law_script", v)]) ∧ ∀ base : Heap, K.In base → base.Ns mainGlobals mg → FnOk l.prog w K mg base CX0 5 fa fd ["_law_script"] (sp_law K) := by
  have e := hfa.symm.trans (PySem.W.mg_of X G hg17)
  cases e
  have F0 := fun_mk (st := s_Heap__init) hl0 hk0 hp0
  have B0 := F0.binds (ps := ["self", "many"]) fun _ _ _ _ _ _ us hl => match us, hl with | [_, _], _ => rfl
  have F1 := fun_mk (st := s_Heap_put) hl1 hk1 hp1
  have B1 := F1.binds (ps := ["self", "column", "wire"]) fun _ _ _ _ _ _ us hl => match us, hl with | [_, _, _], _ => rfl
  have F2 := fun_mk (st := s_Heap_heights) hl2 hk2 hp2
  have B2 := F2.binds (ps := ["self"]) fun _ _ _ _ _ _ us hl => match us, hl with | [_], _ => rfl
  have F3 := fun_mk (st := s_Heap_column) hl3 hk3 hp3
  have B3 := F3.binds (ps := ["self", "k"]) fun _ _ _ _ _ _ us hl => match us, hl with | [_, _], _ => rfl
  have F4 := fun_mk (st := s_Heap_press) hl4 hk4 hp4
  have B4 := F4.binds (ps := ["self", "sheet", "k"]) fun _ _ _ _ _ _ us hl => match us, hl with | [_, _, _], _ => rfl
  have F5 := fun_mk (st := s_Sheet__init) hl5 hk5 hp5
  have B5 := F5.binds (ps := ["self"]) fun _ _ _ _ _ _ us hl => match us, hl with | [_], _ => rfl
  have F6 := fun_mk (st := s_Sheet_add) hl6 hk6 hp6
  have B6 := F6.binds (ps := ["self", "row"]) fun _ _ _ _ _ _ us hl => match us, hl with | [_, _], _ => rfl
  have F7 := fun_mk (st := s_Sheet_rows_now) hl7 hk7 hp7
  have B7 := F7.binds (ps := ["self"]) fun _ _ _ _ _ _ us hl => match us, hl with | [_], _ => rfl
  have F8 := fun_mk (st := s_law_mixed) hl8 hk8 hp8
  have B8 := F8.binds (ps := ["_law_cell", "_law_k"]) fun _ _ _ _ _ _ us hl => match us, hl with | [_, _], _ => rfl
  have F9 := fun_mk (st := s_law_whole) hl9 hk9 hp9
  have B9 := F9.binds (ps := ["_law_found"]) fun _ _ _ _ _ _ us hl => match us, hl with | [_], _ => rfl
  have F10 := fun_mk (st := s_law_bits) hl10 hk10 hp10
  have B10 := F10.binds (ps := ["_law_rows", "_law_words"]) fun _ _ _ _ _ _ us hl => match us, hl with | [_, _], _ => rfl
  have F11 := fun_mk (st := s_law_gate) hl11 hk11 hp11
  have B11 := F11.binds (ps := ["_law_row", "_law_at"]) fun _ _ _ _ _ _ us hl => match us, hl with | [_, _], _ => rfl
  have F12 := fun_mk (st := s_law_good) hl12 hk12 hp12
  have B12 := F12.binds (ps := ["_law_rows", "_law_names"]) fun _ _ _ _ _ _ us hl => match us, hl with | [_, _], _ => rfl
  have F13 := fun_mk (st := s_law_heap) hl13 hk13 hp13
  have B13 := F13.binds (ps := ["_law_sheet", "_law_cells", "_law_many", "_law_tall"]) fun _ _ _ _ _ _ us hl => match us, hl with | [_, _, _, _], _ => rfl
  have F14 := fun_mk (st := s_law_press) hl14 hk14 hp14
  have B14 := F14.binds (ps := ["_law_heap_here", "_law_sheet", "_law_k"]) fun _ _ _ _ _ _ us hl => match us, hl with | [_, _, _], _ => rfl
  have F15 := fun_mk (st := s_law_two) hl15 hk15 hp15
  have B15 := F15.binds (ps := ["_law_found", "_law_size", "_law_bits_here", "_law_three"]) fun _ _ _ _ _ _ us hl => match us, hl with | [_, _, _, _], _ => rfl
  have F16 := fun_mk (st := s_law_done) hl16 hk16 hp16
  have B16 := F16.binds (ps := ["_law_heap_here", "_law_sheet", "_law_rows", "_law_k", "_law_words"]) fun _ _ _ _ _ _ us hl => match us, hl with | [_, _, _, _, _], _ => rfl
  have F17 := fun_mk (st := s_law) hl17 hk17 hp17
  have B17 := F17.binds (ps := ["_law_script"]) fun _ _ _ _ _ _ us hl => match us, hl with | [_], _ => rfl
  let T : Top K mg := ⟨ha0,
    _,
    F0,
    B0,
    ha1,
    _,
    F1,
    B1,
    ha2,
    _,
    F2,
    B2,
    ha3,
    _,
    F3,
    B3,
    ha4,
    _,
    F4,
    B4,
    ha5,
    _,
    F5,
    B5,
    ha6,
    _,
    F6,
    B6,
    ha7,
    _,
    F7,
    B7,
    ha8,
    _,
    F8,
    B8,
    PySem.W.mg_of X G hg8,
    ha9,
    _,
    F9,
    B9,
    PySem.W.mg_of X G hg9,
    ha10,
    _,
    F10,
    B10,
    PySem.W.mg_of X G hg10,
    ha11,
    _,
    F11,
    B11,
    PySem.W.mg_of X G hg11,
    ha12,
    _,
    F12,
    B12,
    PySem.W.mg_of X G hg12,
    ha13,
    _,
    F13,
    B13,
    PySem.W.mg_of X G hg13,
    ha14,
    _,
    F14,
    B14,
    PySem.W.mg_of X G hg14,
    ha15,
    _,
    F15,
    B15,
    PySem.W.mg_of X G hg15,
    ha16,
    _,
    F16,
    B16,
    PySem.W.mg_of X G hg16,
    fa,
    _,
    F17,
    B17,
    PySem.W.mg_of X G hg17,
    c_PressError,
    PySem.W.mg_of X G gc_PressError,
    gc_PressError,
    kc_PressError,
    x_PressError,
    xb_PressError,
    xt_PressError,
    c_TooFew,
    PySem.W.mg_of X G gc_TooFew,
    gc_TooFew,
    kc_TooFew,
    x_TooFew,
    xb_TooFew,
    xt_TooFew,
    c_TooMany,
    PySem.W.mg_of X G gc_TooMany,
    gc_TooMany,
    kc_TooMany,
    x_TooMany,
    xb_TooMany,
    xt_TooMany,
    c_TooWide,
    PySem.W.mg_of X G gc_TooWide,
    gc_TooWide,
    kc_TooWide,
    x_TooWide,
    xb_TooWide,
    xt_TooWide,
    c_NoFormula,
    PySem.W.mg_of X G gc_NoFormula,
    gc_NoFormula,
    kc_NoFormula,
    x_NoFormula,
    xb_NoFormula,
    xt_NoFormula,
    c_NoName,
    PySem.W.mg_of X G gc_NoName,
    gc_NoName,
    kc_NoName,
    x_NoName,
    xb_NoName,
    xt_NoName,
    c_NoLine,
    PySem.W.mg_of X G gc_NoLine,
    gc_NoLine,
    kc_NoLine,
    x_NoLine,
    xb_NoLine,
    xt_NoLine,
    c_NoCircuit,
    PySem.W.mg_of X G gc_NoCircuit,
    gc_NoCircuit,
    kc_NoCircuit,
    x_NoCircuit,
    xb_NoCircuit,
    xt_NoCircuit,
    c_OutOfWidth,
    PySem.W.mg_of X G gc_OutOfWidth,
    gc_OutOfWidth,
    kc_OutOfWidth,
    x_OutOfWidth,
    xb_OutOfWidth,
    xt_OutOfWidth,
    c_Heap,
    PySem.W.mg_of X G gc_Heap,
    gc_Heap,
    kc_Heap,
    ⟨pg_Heap, hd_Heap, po_Heap, sa_Heap⟩,
    ⟨mk_Heap, hg0, hi0, kc_Heap⟩,
    ⟨hg1, hi1, hp1⟩,
    ⟨hg2, hi2, hp2⟩,
    ⟨hg3, hi3, hp3⟩,
    ⟨hg4, hi4, hp4⟩,
    n_Heap_many,
    n_Heap_columns,
    c_Sheet,
    PySem.W.mg_of X G gc_Sheet,
    gc_Sheet,
    kc_Sheet,
    ⟨pg_Sheet, hd_Sheet, po_Sheet, sa_Sheet⟩,
    ⟨mk_Sheet, hg5, hi5, kc_Sheet⟩,
    ⟨hg6, hi6, hp6⟩,
    ⟨hg7, hi7, hp7⟩,
    n_Sheet_rows,
    ehd_PressError,
    ehd_TooFew,
    ega_TooFew,
    egg_TooFew,
    ecl_TooFew,
    esp_TooFew,
    etk_TooFew,
    emr_TooFew,
    sv_TooFew,
    (kit_ve sv_TooFew),
    s_TooFew_PressError,
    (kit_sub ehd_PressError xt_PressError s_TooFew_TooFew s_TooFew_PressError),
    s_TooFew_TooFew,
    (kit_sub ehd_TooFew xt_TooFew s_TooFew_TooFew s_TooFew_TooFew),
    (PySem.W.exm_ref xb_TooFew ehd_TooFew xt_TooFew s_TooFew_TooFew),
    s_TooFew_TooMany,
    (kit_sub ehd_TooMany xt_TooMany s_TooFew_TooFew s_TooFew_TooMany),
    s_TooFew_TooWide,
    (kit_sub ehd_TooWide xt_TooWide s_TooFew_TooFew s_TooFew_TooWide),
    s_TooFew_NoFormula,
    (kit_sub ehd_NoFormula xt_NoFormula s_TooFew_TooFew s_TooFew_NoFormula),
    s_TooFew_NoName,
    (kit_sub ehd_NoName xt_NoName s_TooFew_TooFew s_TooFew_NoName),
    s_TooFew_NoLine,
    (kit_sub ehd_NoLine xt_NoLine s_TooFew_TooFew s_TooFew_NoLine),
    s_TooFew_NoCircuit,
    (kit_sub ehd_NoCircuit xt_NoCircuit s_TooFew_TooFew s_TooFew_NoCircuit),
    s_TooFew_OutOfWidth,
    (kit_sub ehd_OutOfWidth xt_OutOfWidth s_TooFew_TooFew s_TooFew_OutOfWidth),
    ehd_TooMany,
    ehd_TooWide,
    ehd_NoFormula,
    ehd_NoName,
    ehd_NoLine,
    ehd_NoCircuit,
    ehd_OutOfWidth,
    PySem.W.mg_none_of X G z_ValueError,
    PySem.W.mg_none_of X G z_bool,
    PySem.W.mg_none_of X G z_enumerate,
    PySem.W.mg_none_of X G z_int,
    PySem.W.mg_none_of X G z_isinstance,
    PySem.W.mg_none_of X G z_len,
    PySem.W.mg_none_of X G z_list,
    PySem.W.mg_none_of X G z_max,
    PySem.W.mg_none_of X G z_range,
    PySem.W.mg_none_of X G z_str,
    PySem.W.mg_none_of X G z_sum,
    PySem.W.mg_none_of X G z_tuple⟩
  exact ⟨T.d_law, fun s v => .of_eq rfl, fun base _ _ => ok_law T⟩
end Dpr
open PySem PySem.W PyProof.Rows
set_option maxHeartbeats 0 in
theorem PySem.Challenge.cw_dotpress_k21_three_dots_pressed_holds : PySem.Challenge.rw_dotpress_k21_three_dots_pressed.Holds := by
  w_on; o_law; k_head; (case hw => w_witness2)
  k_fill
  refine L2.walk_ofB (l := PySem.Challenge.rw_dotpress_k21_three_dots_pressed) (n := 63) (k := 5) (x := "_law_script") (CX := fun _ => L2.CX0) (sp := fun w => Dpr.sp_law _) rfl (by decide) rfl ⟨rfl, by decide, by decide⟩ (fun w h Y => PySem.W.kIn_of Y) ?F (fun w H a ns hl hb hO hS => Dpr.end_sp_law hl hb hO hS) (fun _ _ _ _ _ h => h)
  case F =>
    intro w mg fa h KX G hmg
    refine' Dpr.all_mk KX G hmg ?hg0 ?hi0 ?hl0 ?hk0 ?hp0 ?hg1 ?hi1 ?hl1 ?hk1 ?hp1 ?hg2 ?hi2 ?hl2 ?hk2 ?hp2 ?hg3 ?hi3 ?hl3 ?hk3 ?hp3 ?hg4 ?hi4 ?hl4 ?hk4 ?hp4 ?hg5 ?hi5 ?hl5 ?hk5 ?hp5 ?hg6 ?hi6 ?hl6 ?hk6 ?hp6 ?hg7 ?hi7 ?hl7 ?hk7 ?hp7 ?hg8 ?hl8 ?hk8 ?hp8 ?hg9 ?hl9 ?hk9 ?hp9 ?hg10 ?hl10 ?hk10 ?hp10 ?hg11 ?hl11 ?hk11 ?hp11 ?hg12 ?hl12 ?hk12 ?hp12 ?hg13 ?hl13 ?hk13 ?hp13 ?hg14 ?hl14 ?hk14 ?hp14 ?hg15 ?hl15 ?hk15 ?hp15 ?hg16 ?hl16 ?hk16 ?hp16 ?hg17 ?hl17 ?hk17 ?hp17 ?gc_PressError ?kc_PressError ?x_PressError ?xb_PressError ?xt_PressError ?ehd_PressError ?gc_TooFew ?kc_TooFew ?x_TooFew ?xb_TooFew ?xt_TooFew ?ehd_TooFew ?ega_TooFew ?egg_TooFew ?ecl_TooFew ?esp_TooFew ?etk_TooFew ?emr_TooFew ?sv_TooFew ?s_TooFew_PressError ?s_TooFew_TooFew ?s_TooFew_TooMany ?s_TooFew_TooWide ?s_TooFew_NoFormula ?s_TooFew_NoName ?s_TooFew_NoLine ?s_TooFew_NoCircuit ?s_TooFew_OutOfWidth ?gc_TooMany ?kc_TooMany ?x_TooMany ?xb_TooMany ?xt_TooMany ?ehd_TooMany ?gc_TooWide ?kc_TooWide ?x_TooWide ?xb_TooWide ?xt_TooWide ?ehd_TooWide ?gc_NoFormula ?kc_NoFormula ?x_NoFormula ?xb_NoFormula ?xt_NoFormula ?ehd_NoFormula ?gc_NoName ?kc_NoName ?x_NoName ?xb_NoName ?xt_NoName ?ehd_NoName ?gc_NoLine ?kc_NoLine ?x_NoLine ?xb_NoLine ?xt_NoLine ?ehd_NoLine ?gc_NoCircuit ?kc_NoCircuit ?x_NoCircuit ?xb_NoCircuit ?xt_NoCircuit ?ehd_NoCircuit ?gc_OutOfWidth ?kc_OutOfWidth ?x_OutOfWidth ?xb_OutOfWidth ?xt_OutOfWidth ?ehd_OutOfWidth ?gc_Heap ?kc_Heap ?pg_Heap ?hd_Heap ?po_Heap ?sa_Heap ?mk_Heap ?n_Heap_many ?n_Heap_columns ?gc_Sheet ?kc_Sheet ?pg_Sheet ?hd_Sheet ?po_Sheet ?sa_Sheet ?mk_Sheet ?n_Sheet_rows ?z_ValueError ?z_bool ?z_enumerate ?z_int ?z_isinstance ?z_len ?z_list ?z_max ?z_range ?z_str ?z_sum ?z_tuple
    (case gc_PressError => k_is)
    (case gc_TooFew => k_is)
    (case gc_TooMany => k_is)
    (case gc_TooWide => k_is)
    (case gc_NoFormula => k_is)
    (case gc_NoName => k_is)
    (case gc_NoLine => k_is)
    (case gc_NoCircuit => k_is)
    (case gc_OutOfWidth => k_is)
    (case gc_Heap => k_is)
    (case gc_Sheet => k_is)
    (case hg0 => k_is)
    (case hi0 => k_is)
    (case hl0 => k_is)
    (case hk0 => k_is)
    (case hp0 => k_is)
    (case hg1 => k_is)
    (case hi1 => k_is)
    (case hl1 => k_is)
    (case hk1 => k_is)
    (case hp1 => k_is)
    (case hg2 => k_is)
    (case hi2 => k_is)
    (case hl2 => k_is)
    (case hk2 => k_is)
    (case hp2 => k_is)
    (case hg3 => k_is)
    (case hi3 => k_is)
    (case hl3 => k_is)
    (case hk3 => k_is)
    (case hp3 => k_is)
    (case hg4 => k_is)
    (case hi4 => k_is)
    (case hl4 => k_is)
    (case hk4 => k_is)
    (case hp4 => k_is)
    (case hg5 => k_is)
    (case hi5 => k_is)
    (case hl5 => k_is)
    (case hk5 => k_is)
    (case hp5 => k_is)
    (case hg6 => k_is)
    (case hi6 => k_is)
    (case hl6 => k_is)
    (case hk6 => k_is)
    (case hp6 => k_is)
    (case hg7 => k_is)
    (case hi7 => k_is)
    (case hl7 => k_is)
    (case hk7 => k_is)
    (case hp7 => k_is)
    (case hg8 => k_is)
    (case hl8 => k_is)
    (case hk8 => k_is)
    (case hp8 => k_is)
    (case hg9 => k_is)
    (case hl9 => k_is)
    (case hk9 => k_is)
    (case hp9 => k_is)
    (case hg10 => k_is)
    (case hl10 => k_is)
    (case hk10 => k_is)
    (case hp10 => k_is)
    (case hg11 => k_is)
    (case hl11 => k_is)
    (case hk11 => k_is)
    (case hp11 => k_is)
    (case hg12 => k_is)
    (case hl12 => k_is)
    (case hk12 => k_is)
    (case hp12 => k_is)
    (case hg13 => k_is)
    (case hl13 => k_is)
    (case hk13 => k_is)
    (case hp13 => k_is)
    (case hg14 => k_is)
    (case hl14 => k_is)
    (case hk14 => k_is)
    (case hp14 => k_is)
    (case hg15 => k_is)
    (case hl15 => k_is)
    (case hk15 => k_is)
    (case hp15 => k_is)
    (case hg16 => k_is)
    (case hl16 => k_is)
    (case hk16 => k_is)
    (case hp16 => k_is)
    (case hg17 => k_is)
    (case hl17 => k_is)
    (case hk17 => k_is)
    (case hp17 => k_is)
    (case kc_PressError => k_is)
    (case x_PressError => k_exc)
    (case xb_PressError => k_is)
    (case xt_PressError => k_is)
    (case ehd_PressError => k_is)
    (case kc_TooFew => k_is)
    (case x_TooFew => k_exc)
    (case xb_TooFew => k_is)
    (case xt_TooFew => k_is)
    (case ehd_TooFew => k_is)
    (case ega_TooFew => k_is)
    (case egg_TooFew => k_is)
    (case ecl_TooFew => k_is)
    (case esp_TooFew => k_is)
    (case etk_TooFew => k_is)
    (case emr_TooFew => k_is)
    (case sv_TooFew => k_is)
    (case s_TooFew_PressError => k_is)
    (case s_TooFew_TooFew => k_is)
    (case s_TooFew_TooMany => k_is)
    (case s_TooFew_TooWide => k_is)
    (case s_TooFew_NoFormula => k_is)
    (case s_TooFew_NoName => k_is)
    (case s_TooFew_NoLine => k_is)
    (case s_TooFew_NoCircuit => k_is)
    (case s_TooFew_OutOfWidth => k_is)
    (case kc_TooMany => k_is)
    (case x_TooMany => k_exc)
    (case xb_TooMany => k_is)
    (case xt_TooMany => k_is)
    (case ehd_TooMany => k_is)
    (case kc_TooWide => k_is)
    (case x_TooWide => k_exc)
    (case xb_TooWide => k_is)
    (case xt_TooWide => k_is)
    (case ehd_TooWide => k_is)
    (case kc_NoFormula => k_is)
    (case x_NoFormula => k_exc)
    (case xb_NoFormula => k_is)
    (case xt_NoFormula => k_is)
    (case ehd_NoFormula => k_is)
    (case kc_NoName => k_is)
    (case x_NoName => k_exc)
    (case xb_NoName => k_is)
    (case xt_NoName => k_is)
    (case ehd_NoName => k_is)
    (case kc_NoLine => k_is)
    (case x_NoLine => k_exc)
    (case xb_NoLine => k_is)
    (case xt_NoLine => k_is)
    (case ehd_NoLine => k_is)
    (case kc_NoCircuit => k_is)
    (case x_NoCircuit => k_exc)
    (case xb_NoCircuit => k_is)
    (case xt_NoCircuit => k_is)
    (case ehd_NoCircuit => k_is)
    (case kc_OutOfWidth => k_is)
    (case x_OutOfWidth => k_exc)
    (case xb_OutOfWidth => k_is)
    (case xt_OutOfWidth => k_is)
    (case ehd_OutOfWidth => k_is)
    (case kc_Heap => k_is)
    (case pg_Heap => k_is)
    (case hd_Heap => k_is)
    (case po_Heap => k_is)
    (case sa_Heap => k_is)
    (case mk_Heap => k_is)
    (case n_Heap_many => k_is)
    (case n_Heap_columns => k_is)
    (case kc_Sheet => k_is)
    (case pg_Sheet => k_is)
    (case hd_Sheet => k_is)
    (case po_Sheet => k_is)
    (case sa_Sheet => k_is)
    (case mk_Sheet => k_is)
    (case n_Sheet_rows => k_is)
    (case z_ValueError => k_is)
    (case z_bool => k_is)
    (case z_enumerate => k_is)
    (case z_int => k_is)
    (case z_isinstance => k_is)
    (case z_len => k_is)
    (case z_list => k_is)
    (case z_max => k_is)
    (case z_range => k_is)
    (case z_str => k_is)
    (case z_sum => k_is)
    (case z_tuple => k_is)


