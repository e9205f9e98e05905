import PyProof.Rows.All
import Wide.All
import OpenK.AllK
import Wide.FinOn
import HandS.ForMost
import HandS.IsInst
import HandS.WideBits
import HandS.EndBits
import HandS.Evl
import PySem.Challenge.RW_dotpress_k02_widths
set_option Elab.async false
set_option linter.all false
set_option maxRecDepth 100000
set_option maxHeartbeats 4000000


namespace Dpr
open PySem PySem.Spec PyProof.Rows L2
/-! ### steps of a reading, one a construct -/
section
variable {K : PySem.W.Frag} {D : Ends} {σ : L2.St} {H : Hp} {Q : VK} {QB : Bool → Hp → Prop} {QA : List V → Hp → Prop} {ta tb tc te : TE} {t u : TS} {c : TT} {g : TG} {r r' : R2} {v x y : V}
theorem w_seq (h : t { D with nx := u D } σ H) : tSeq t u D σ H := h
theorem w_cut (M : L2.St → Hp → Prop) (h : t { D with nx := M } σ H) (k : ∀ σ' H', M σ' H' → u D σ' H') : Evl.tCut t u D σ H := ⟨M, h, k⟩
theorem w_asg {i : Nat} (h : te σ H fun v H1 => D.nx (σ.set i (some v)) H1) : tAsg te (gName i) D σ H := h
theorem w_asgG (h : te σ H fun v H1 => g v σ H1 D.nx) : tAsg te g D σ H := h
theorem w_drop (h : te σ H fun _ H1 => D.nx σ H1) : tDrop te D σ H := h
theorem w_ret (h : te σ H D.rt) : tRet te D σ H := h
theorem w_retN (h : D.rt .non H) : tRetN D σ H := h
theorem w_next (h : D.nx σ H) : tNext D σ H := h
theorem w_cont (h : D.ct σ H) : tCont D σ H := h
theorem w_brk (h : D.bk σ H) : tBreak D σ H := h
theorem w_if (h : c σ H fun b H1 => if b = true then t D σ H1 else u D σ H1) : tIfS c t u D σ H := h
theorem w_aug {i : Nat} {ti : TIp} (hx : σ[i]? = some (some x)) (h : te σ H fun y H1 => ti x y H1 fun z H2 => D.nx (σ.set i (some z)) H2) : tAug i te ti D σ H := ⟨x, hx, h⟩
theorem w_ipI {f : Int → Int → Int} {i j : Int} (h : Q (.int (f i j)) H) : ipI f (.int i) (.int j) H Q := ⟨i, j, rfl, rfl, h⟩
theorem w_var {i : Nat} (hx : σ[i]? = some (some v)) (h : Q v H) : tVar i σ H Q := ⟨v, hx, h⟩
theorem w_c (h : Q v H) : tC v σ H Q := h
theorem w_op (h : ta σ H fun x H1 => tb σ H1 fun y H2 => r x y H2 Q) : tOp r ta tb σ H Q := h
theorem w_un {f : V → Hp → VK → Prop} (h : ta σ H fun x H1 => f x H1 Q) : tUn f ta σ H Q := h
theorem w_chain (h : ta σ H fun x H1 => tb σ H1 fun y H2 => r x y H2 fun z H3 => ∃ k, z = .bl k ∧ (if k = true then tc σ H3 fun w' H4 => r' y w' H4 Q else Q (.bl false) H3)) : tChain r r' ta tb tc σ H Q := h
theorem w_test (h : te σ H fun x H1 => ∃ k, x = .bl k ∧ QB k H1) : tTest te σ H QB := h
theorem w_tB (h : te σ H fun x H1 => ∃ k, x = .bl k ∧ QB k H1) : tB te σ H QB := h
theorem w_bl {b : Bool} {P : Bool → Prop} (h : P b) : ∃ k, V.bl b = .bl k ∧ P k := ⟨b, rfl, h⟩
theorem w_and {t u : TT} (h : t σ H fun c H1 => if c = true then u σ H1 QB else QB false H1) : tAnd t u σ H QB := h
theorem w_or {t u : TT} (h : t σ H fun c H1 => if c = true then QB true H1 else u σ H1 QB) : tOr t u σ H QB := h
theorem w_not {t : TT} (h : t σ H fun c H1 => QB (!c) H1) : tNot t σ H QB := h
theorem w_andV (h : ta σ H fun x H1 => ∃ c, x = .bl c ∧ if c = true then tb σ H1 Q else Q (.bl false) H1) : tAndV ta tb σ H Q := h
theorem w_orV (h : ta σ H fun x H1 => ∃ c, x = .bl c ∧ if c = true then Q (.bl true) H1 else tb σ H1 Q) : tOrV ta tb σ H Q := h
theorem w_notV (h : ta σ H fun x H1 => ∃ c, x = .bl c ∧ Q (.bl (!c)) H1) : tNotV ta σ H Q := h
theorem w_ifx {t : TT} (h : t σ H fun c H1 => if c = true then ta σ H1 Q else tb σ H1 Q) : tIf t ta tb σ H Q := h
theorem w_nil (h : QA [] H) : tNil σ H QA := h
theorem w_cons {tr : TA} (h : ta σ H fun x H1 => tr σ H1 fun xs H2 => QA (x :: xs) H2) : tCons ta tr σ H QA := h
/-- a new tuple, a new list: the heap is a letter -/
def AlT (xs : List V) (H : Hp) (Q : VK) : Prop := xs.length ≤ sizeLine ∧ ∀ p, H p = none → Q (.ref p) (upd H p (.tup xs))
def AlL (xs : List V) (H : Hp) (Q : VK) : Prop := xs.length ≤ sizeLine ∧ ∀ p, H p = none → Q (.ref p) (upd H p (.lst xs))
theorem same_upd {H : Hp} {p : Addr} {o : HO} (h : H p = none) : Same H (upd H p o) := fun b x e => by
  rw [upd_ne (ne_of_none e h)]
  exact e
theorem w_tup {s : TA} (h : s σ H fun xs H1 => AlT xs H1 Q) : tTup s σ H Q := h
theorem w_lst {s : TA} (h : s σ H fun xs H1 => AlL xs H1 Q) : tLst s σ H Q := h
theorem sz_le {n : Nat} (h : Nat.ble n 1000 = true) : n ≤ sizeLine := Nat.le_trans (Nat.le_of_ble_eq_true h) (by rw [sizeLine_eq]; decide)
theorem w_alT {xs : List V} (hl : xs.length ≤ sizeLine) (h : ∀ p H', H p = none → Same H H' → H' p = some (.tup xs) → Q (.ref p) H') : AlT xs H Q := ⟨hl, fun p hp => h p _ hp (same_upd hp) upd_same⟩
theorem w_alL {xs : List V} (hl : xs.length ≤ sizeLine) (h : ∀ p H', H p = none → Same H H' → H' p = some (.lst xs) → Q (.ref p) H') : AlL xs H Q := ⟨hl, fun p hp => h p _ hp (same_upd hp) upd_same⟩
theorem w_call {sp : Sp} {dvs : List V} {E : XK} {s : TA} (h : s σ H fun vs H1 => sp (vs ++ dvs) H1 Q E) : tCall sp dvs E s σ H Q := h
theorem w_cb {f : List V → Hp → VK → Prop} {s : TA} (h : s σ H fun vs H1 => f vs H1 Q) : tCB f s σ H Q := h
theorem w_I0 {f : Int → Int → V} {i j : Int} (h : Q (f i j) H) : rI0 f (.int i) (.int j) H Q := ⟨i, j, rfl, rfl, h⟩
theorem w_I {C : Int → Int → Prop} {f : Int → Int → V} {i j : Int} (hc : C i j) (h : Q (f i j) H) : rI C f (.int i) (.int j) H Q := ⟨i, j, rfl, rfl, hc, h⟩
theorem w_U {f : Int → V} {i : Int} (h : Q (f i) H) : rU f (.int i) H Q := ⟨i, rfl, h⟩
theorem w_eq (hs : scal x y = true) (h : Q (.bl (decide (x = y))) H) : rEq x y H Q := ⟨hs, h⟩
theorem w_ne (hs : scal x y = true) (h : Q (.bl (!decide (x = y))) H) : rNe x y H Q := ⟨hs, h⟩
theorem w_bits {i : Int} (h : Q (.int (Builtin.Int.intBits i : Nat)) H) : (∃ j, V.int i = .int j ∧ Q (.int (Builtin.Int.intBits j : Nat)) H) := ⟨i, rfl, h⟩
theorem w_tbits (h : te σ H fun x H1 => ∃ i, x = .int i ∧ Q (.int (Builtin.Int.intBits i : Nat)) H1) : tBits te σ H Q := h
theorem w_ixL {p : Addr} {xs : List V} {i : Int} (hl : SqL K H p xs) (ha : atI xs i = some v) (h : Q v H) : rIxL K (.ref p) (.int i) H Q := ⟨p, xs, i, v, rfl, rfl, hl, ha, h⟩
theorem w_ixT {p : Addr} {xs : List V} {i : Int} (hl : SqT K H p xs) (ha : atI xs i = some v) (h : Q v H) : rIxT K (.ref p) (.int i) H Q := ⟨p, xs, i, v, rfl, rfl, hl, ha, h⟩
/-! tests -/
theorem w_itT {A B : Prop} (h : A) : if true = true then A else B := by rw [if_pos rfl]; exact h
theorem w_itF {A B : Prop} (h : B) : if false = true then A else B := by rw [if_neg Bool.false_ne_true]; exact h
theorem w_itC {b : Bool} {A B : Prop} (e : b = true) (h : A) : if b = true then A else B := by rw [if_pos e]; exact h
theorem w_itD {b : Bool} {A B : Prop} (e : b = false) (h : B) : if b = true then A else B := by rw [e, if_neg Bool.false_ne_true]; exact h
theorem w_itI {i j : Int} {A B : Prop} (h1 : i = j → A) (h2 : i ≠ j → B) : if decide (V.int i = V.int j) = true then A else B := by
  by_cases e : i = j
  · rw [if_pos (by rw [e]; exact decide_eq_true rfl)]; exact h1 e
  · rw [if_neg (fun z => e (V.int.inj (of_decide_eq_true z)))]; exact h2 e
theorem w_itN {i j : Int} {A B : Prop} (h1 : i ≠ j → A) (h2 : i = j → B) : if (!decide (V.int i = V.int j)) = true then A else B := by
  by_cases e : i = j
  · rw [e, decide_eq_true rfl]; exact w_itF (h2 e)
  · rw [decide_eq_false (fun z => e (V.int.inj z))]; exact w_itT (h1 e)
theorem w_itd {p A B : Prop} [Decidable p] (h1 : p → A) (h2 : ¬ p → B) : if decide p = true then A else B := by
  by_cases e : p
  · rw [if_pos (decide_eq_true e)]; exact h1 e
  · rw [if_neg (fun z => e (of_decide_eq_true z))]; exact h2 e
theorem w_itn {p A B : Prop} [Decidable p] (h1 : ¬ p → A) (h2 : p → B) : if (!decide p) = true then A else B := by
  by_cases e : p
  · rw [decide_eq_true e]; exact w_itF (h2 e)
  · rw [decide_eq_false e]; exact w_itT (h1 e)
theorem w_itb {b : Bool} {A B : Prop} (h1 : b = true → A) (h2 : b = false → B) : if b = true then A else B := by
  cases b with
  | true => exact w_itT (h1 rfl)
  | false => exact w_itF (h2 rfl)
end
/-! calls of built-ins, by names of our own -/
def rLen (K : PySem.W.Frag) : List V → Hp → VK → Prop := fun xs H Q => ∃ p ys, xs = [.ref p] ∧ (SqL K H p ys ∨ SqT K H p ys) ∧ Q (.int ys.length) H
theorem c_len {X : Cx} : CallR X (.builtin "len") (rLen X.K) := call_len_seq
theorem w_lenL {K : PySem.W.Frag} {H : Hp} {Q : VK} {p : Addr} {xs : List V} (h : SqL K H p xs) (q : Q (.int (xs.length : Int)) H) : rLen K [.ref p] H Q := ⟨p, xs, rfl, .inl h, q⟩
theorem w_lenT {K : PySem.W.Frag} {H : Hp} {Q : VK} {p : Addr} {xs : List V} (h : SqT K H p xs) (q : Q (.int (xs.length : Int)) H) : rLen K [.ref p] H Q := ⟨p, xs, rfl, .inr h, q⟩
def rAbs : List V → Hp → VK → Prop := fun xs H Q => ∃ i, xs = [.int i] ∧ Q (.int (if i < 0 then -i else i)) H
theorem c_abs {X : Cx} : CallR X (.builtin "abs") rAbs := call_abs
theorem w_abs {H : Hp} {Q : VK} {i : Int} (q : Q (.int (if i < 0 then -i else i)) H) : rAbs [.int i] H Q := ⟨i, rfl, q⟩
def rMax2 : List V → Hp → VK → Prop := fun xs H Q => ∃ i j, xs = [.int i, .int j] ∧ Q (.int (if j > i then j else i)) H
def rMin2 : List V → Hp → VK → Prop := fun xs H Q => ∃ i j, xs = [.int i, .int j] ∧ Q (.int (if j < i then j else i)) H
theorem c_max2 {X : Cx} (hc : X.calm = true) : CallR X (.builtin "max") rMax2 := call_max2 hc
theorem c_min2 {X : Cx} (hc : X.calm = true) : CallR X (.builtin "min") rMin2 := call_min2 hc
theorem w_max2 {H : Hp} {Q : VK} {i j : Int} (q : Q (.int (if j > i then j else i)) H) : rMax2 [.int i, .int j] H Q := ⟨i, j, rfl, q⟩
theorem w_min2 {H : Hp} {Q : VK} {i j : Int} (q : Q (.int (if j < i then j else i)) H) : rMin2 [.int i, .int j] H Q := ⟨i, j, rfl, q⟩
def rListOf (K : PySem.W.Frag) : List V → Hp → VK → Prop := fun xs H Q => ∃ p ys, xs = [.ref p] ∧ (SqL K H p ys ∨ SqT K H p ys) ∧ ∀ l, H l = none → Q (.ref l) (upd H l (.lst ys))
theorem c_list {X : Cx} : CallR X (.type "list") (rListOf X.K) := call_list_of
theorem w_listL {K : PySem.W.Frag} {H : Hp} {Q : VK} {p : Addr} {xs : List V} (h : SqL K H p xs) (q : ∀ l H', H l = none → Same H H' → H' l = some (.lst xs) → Q (.ref l) H') : rListOf K [.ref p] H Q := ⟨p, xs, rfl, .inl h, fun l hl => q l _ hl (same_upd hl) upd_same⟩
theorem w_listT {K : PySem.W.Frag} {H : Hp} {Q : VK} {p : Addr} {xs : List V} (h : SqT K H p xs) (q : ∀ l H', H l = none → Same H H' → H' l = some (.lst xs) → Q (.ref l) H') : rListOf K [.ref p] H Q := ⟨p, xs, rfl, .inr h, fun l hl => q l _ hl (same_upd hl) upd_same⟩
/-- a product of two ints of any size that the model allows -/
theorem op_mulI {X : Cx} : OpR X (binaryOp .Mult) (rI IntMulOk fun i j => .int (i * j)) := opI fun _ _ _ _ _ _ _ hc q => mul_int q hc
/-- isinstance, the answer told -/
theorem w_isi {K : PySem.W.Frag} {H : Hp} {Q : VK} {x : V} {t : Value} {n : String} {b : Bool} (ty : TyX K H x t) (e : PySem.W.kitOne K t (.type n) = some b) (q : Q (.bl b) H) : rIsi K [x, .ty n] H Q := ⟨x, .ty n, t, _, b, rfl, .ty n, ty, e, q⟩
theorem kit_ii (K : PySem.W.Frag) : PySem.W.kitOne K (.type "int") (.type "int") = some true := kit_ty (by decide +kernel)
theorem kit_ib (K : PySem.W.Frag) : PySem.W.kitOne K (.type "int") (.type "bool") = some false := kit_ty (by decide +kernel)
theorem kit_bi (K : PySem.W.Frag) : PySem.W.kitOne K (.type "bool") (.type "int") = some true := kit_ty (by decide +kernel)
theorem kit_bb (K : PySem.W.Frag) : PySem.W.kitOne K (.type "bool") (.type "bool") = some true := kit_ty (by decide +kernel)
theorem kit_ll (K : PySem.W.Frag) : PySem.W.kitOne K (.type "list") (.type "list") = some true := kit_ty (by decide +kernel)
theorem kit_tt (K : PySem.W.Frag) : PySem.W.kitOne K (.type "tuple") (.type "tuple") = some true := kit_ty (by decide +kernel)
theorem kit_ss (K : PySem.W.Frag) : PySem.W.kitOne K (.type "str") (.type "str") = some true := kit_ty (by decide +kernel)
theorem w_isiT {K : PySem.W.Frag} {H : Hp} {Q : VK} {p : Addr} {xs : List V} (e : H p = some (.tup xs)) (q : Q (.bl true) H) : rIsi K [.ref p, .ty "tuple"] H Q := w_isi (TyX.base (TyOf.tup e)) (kit_tt K) q
theorem w_isiL {K : PySem.W.Frag} {H : Hp} {Q : VK} {p : Addr} {xs : List V} (e : H p = some (.lst xs)) (q : Q (.bl true) H) : rIsi K [.ref p, .ty "list"] H Q := w_isi (TyX.base (TyOf.lst e)) (kit_ll K) q
theorem kit_tl (K : PySem.W.Frag) : PySem.W.kitOne K (.type "tuple") (.type "list") = some false := kit_ty (by decide +kernel)
theorem kit_lt (K : PySem.W.Frag) : PySem.W.kitOne K (.type "list") (.type "tuple") = some false := kit_ty (by decide +kernel)
/-! slices and sums of lists -/
section
variable {K : PySem.W.Frag} {σ : L2.St} {H : Hp} {Q : VK} {te : TE} {tl th : TO} {QO : Option Int → Hp → Prop}
theorem w_tsl {f : V → Option Int → Option Int → Hp → VK → Prop} (h : te σ H fun x H1 => tl σ H1 fun l H2 => th σ H2 fun u H3 => f x l u H3 Q) : tSl f te tl th σ H Q := h
theorem w_tnp (h : QO none H) : tNoPart σ H QO := h
theorem w_tpt (h : te σ H fun x H1 => ∃ i, x = .int i ∧ QO (some i) H1) : tPart te σ H QO := h
theorem w_pt {i : Int} {P : Int → Prop} (h : P i) : ∃ j, V.int i = .int j ∧ P j := ⟨i, rfl, h⟩
theorem w_sl {p : Addr} {xs : List V} {lo hi : Option Int} (h : SqL K H p xs) (q : ∀ l H', H l = none → Same H H' → H' l = some (.lst (cutV xs lo hi)) → Q (.ref l) H') : rSlL K (.ref p) lo hi H Q :=
  ⟨p, xs, rfl, h, fun l hl => q l _ hl (same_upd hl) upd_same⟩
theorem w_cat {p b : Addr} {xs ys : List V} (h1 : H p = some (.lst xs)) (h2 : H b = some (.lst ys)) (hz : xs.length + ys.length ≤ 16000000) (q : ∀ l H', H l = none → Same H H' → H' l = some (.lst (xs ++ ys)) → Q (.ref l) H') : rCat (.ref p) (.ref b) H Q :=
  ⟨p, b, xs, ys, rfl, rfl, h1, h2, Nat.le_trans hz (by rw [sizeLine_eq]; decide), fun l hl => q l _ hl (same_upd hl) upd_same⟩
end
/-! heaps that grow -/
theorem Same.tup {K : PySem.W.Frag} {H H' : Hp} {a : Addr} {xs : List V} (e : Same H H') (h : SqT K H a xs) : SqT K H' a xs := by
  rcases h with (h | ⟨o, h⟩) | h
  · exact .inl (.inl (e _ _ h))
  · exact .inl (.inr ⟨o, e _ _ h⟩)
  · exact .inr h
/-! loops -/
section
variable {K : PySem.W.Frag} {D : Ends} {σ : L2.St} {H : Hp} {Q : VK} {ta te tl : TE} {t : TS} {g : TG} {s : TA} {wi : TI} {tt : TT} {vs : List Nat}
def ForB (J : It) (g : TG) (t : TS) (D : Ends) (σ : L2.St) (H : Hp) : Prop := ∃ W : Nat → Nat → L2.St → Hp → Prop, (∃ m, W 0 m σ H) ∧ ∀ i m σ H, W i m σ H →
  (J.stop i H ∧ D.nx σ H) ∨ (J.go i H ∧ ∃ N : L2.St → Hp → Prop, (∀ σ' H', N σ' H' → ∃ m', m' < m ∧ W (i + 1) m' σ' H') ∧ ∀ x H', J.yld i H x H' → g x σ H' fun σ2 H2 => t { D with nx := N, ct := N, bk := D.nx } σ2 H2)
theorem w_for (h : wi σ H fun J H1 => ForB J g t D σ H1) : tFor wi g t D σ H := h
def LcB (J : It) (g : TG) (tt : TT) (te : TE) (vs : List Nat) (σ : L2.St) (Q : VK) (H1 : Hp) : Prop := ∀ D, H1 D = none → ∃ W : Nat → Nat → Hp → Prop, (∃ m, W 0 m (upd H1 D (.lst []))) ∧ ∀ i m H, W i m H →
  (J.stop i H ∧ Q (.ref D) H) ∨ (J.go i H ∧ ∃ Nx : Hp → Prop, (∀ H', Nx H' → ∃ m', m' < m ∧ W (i + 1) m' H') ∧ ∀ x H', J.yld i H x H' → g x (wipe σ vs) H' fun σ2 H2 => wipe σ2 vs = wipe σ vs ∧ tt σ2 H2 fun b H3 =>
    if b = true then te σ2 H3 fun y H4 => ∃ acc, H4 D = some (.lst acc) ∧ acc.length < sizeLine ∧ Nx (upd H4 D (.lst (acc ++ [y]))) else Nx H3)
theorem w_lc (h : wi σ H fun J H1 => LcB J g tt te vs σ Q H1) : tLc wi g tt te vs σ H Q := h
def IL1 (K : PySem.W.Frag) (R : It → Hp → Prop) (x : V) (H1 : Hp) : Prop := ∃ a, x = .ref a ∧ (∃ xs, SqL K H1 a xs) ∧ R (Itl K a) H1
def IT1 (K : PySem.W.Frag) (R : It → Hp → Prop) (x : V) (H1 : Hp) : Prop := ∃ a, x = .ref a ∧ (∃ xs, SqT K H1 a xs) ∧ R (Itt K a) H1
def IR1 (R : It → Hp → Prop) (vs : List V) (H1 : Hp) : Prop := ∃ j : Int, vs = [.int j] ∧ -(2 ^ 62) ≤ j ∧ j < 2 ^ 62 ∧ R (Itr 0 j.toNat) H1
def IR2 (R : It → Hp → Prop) (vs : List V) (H1 : Hp) : Prop := ∃ i j : Int, vs = [.int i, .int j] ∧ (-(2 ^ 62) ≤ i ∧ i < 2 ^ 62 ∧ -(2 ^ 62) ≤ j ∧ j < 2 ^ 62) ∧ R (Itr i (j - i).toNat) H1
variable {R : It → Hp → Prop}
theorem w_iL (h : tl σ H fun x H1 => IL1 K R x H1) : iList K tl σ H R := h
theorem w_iT (h : tl σ H fun x H1 => IT1 K R x H1) : iTup K tl σ H R := h
theorem w_iR1 (h : s σ H fun x H1 => IR1 R x H1) : iRng1 s σ H R := h
theorem w_iR2 (h : s σ H fun x H1 => IR2 R x H1) : iRng2 s σ H R := h
theorem w_IL1 {a : Addr} {xs : List V} (h : SqL K H a xs) (q : R (Itl K a) H) : IL1 K R (.ref a) H := ⟨a, rfl, ⟨xs, h⟩, q⟩
theorem w_IT1 {a : Addr} {xs : List V} (h : SqT K H a xs) (q : R (Itt K a) H) : IT1 K R (.ref a) H := ⟨a, rfl, ⟨xs, h⟩, q⟩
theorem w_IR1 {j : Int} (h : -1000000 ≤ j ∧ j ≤ 1000000) (q : R (Itr 0 j.toNat) H) : IR1 R [.int j] H := ⟨j, rfl, by omega, by omega, q⟩
theorem w_IR2 {i j : Int} (h : -1000000 ≤ i ∧ i ≤ 1000000 ∧ -1000000 ≤ j ∧ j ≤ 1000000) (q : R (Itr i (j - i).toNat) H) : IR2 R [.int i, .int j] H := ⟨i, j, rfl, by omega, q⟩
/-- for x in a list that stands: Pv by the turn, the slots, the heap -/
theorem for_l {a : Addr} {j : Nat} (xs : List V) (Pv : Nat → L2.St → Hp → Prop) (h0 : Pv 0 σ H) (hl : ∀ i σ H, i ≤ xs.length → Pv i σ H → SqL K H a xs)
    (hs : ∀ i x σ' H', xs[i]? = some x → Pv i σ' H' → t { D with nx := Pv (i + 1), ct := Pv (i + 1), bk := D.nx } (σ'.set j (some x)) H') (hd : ∀ σ' H', Pv xs.length σ' H' → D.nx σ' H') : ForB (Itl K a) (gName j) t D σ H :=
  for_list Pv h0 hl hs hd
theorem for_t {a : Addr} {j : Nat} (xs : List V) (Pv : Nat → L2.St → Hp → Prop) (h0 : Pv 0 σ H) (hl : ∀ i σ H, i ≤ xs.length → Pv i σ H → SqT K H a xs)
    (hs : ∀ i x σ' H', xs[i]? = some x → Pv i σ' H' → t { D with nx := Pv (i + 1), ct := Pv (i + 1), bk := D.nx } (σ'.set j (some x)) H') (hd : ∀ σ' H', Pv xs.length σ' H' → D.nx σ' H') : ForB (Itt K a) (gName j) t D σ H :=
  for_tup Pv h0 hl hs hd
theorem for_r {n j : Nat} (Pv : Nat → L2.St → Hp → Prop) (h0 : Pv 0 σ H)
    (hs : ∀ (i : Nat) σ' H', i < n → Pv i σ' H' → t { D with nx := Pv (i + 1), ct := Pv (i + 1), bk := D.nx } (σ'.set j (some (.int (i : Int)))) H') (hd : ∀ σ' H', Pv n σ' H' → D.nx σ' H') : ForB (Itr 0 n) (gName j) t D σ H :=
  for_range Pv h0 (fun i σ' H' hi p => by
    show t _ (σ'.set j (some (.int (0 + (i : Int))))) H'
    rw [Int.zero_add]
    exact hs i σ' H' hi p) hd
theorem for_r2 {lo : Int} {n j : Nat} (Pv : Nat → L2.St → Hp → Prop) (h0 : Pv 0 σ H)
    (hs : ∀ (i : Nat) σ' H', i < n → Pv i σ' H' → t { D with nx := Pv (i + 1), ct := Pv (i + 1), bk := D.nx } (σ'.set j (some (.int (lo + (i : Int))))) H') (hd : ∀ σ' H', Pv n σ' H' → D.nx σ' H') : ForB (Itr lo n) (gName j) t D σ H :=
  for_range Pv h0 hs hd
/-- a comprehension over range(n) whose elements leave the heap -/
theorem lc_r {n j : Nat} (f : Nat → V) (hn : n < 1000000) (hw : ∀ x, wipe ((wipe σ vs).set j (some x)) vs = wipe σ vs)
    (he : ∀ (i : Nat) H' (Q' : VK), i < n → Q' (f i) H' → te ((wipe σ vs).set j (some (.int (i : Int)))) H' Q')
    (q : ∀ p H', H p = none → Same H H' → H' p = some (.lst ((List.range n).map f)) → Q (.ref p) H') : LcB (Itr 0 n) (gName j) tYes te vs σ Q H := fun p hp =>
  lc_range (lo := 0) (n := n) (fun i H' => H' = upd H p (.lst ((List.range i).map f))) rfl (fun i H' hi e => by
    subst e
    have e0 : V.int (0 + (i : Int)) = V.int (i : Int) := by rw [Int.zero_add]
    show wipe ((wipe σ vs).set j (some (V.int (0 + (i : Int))))) vs = wipe σ vs ∧ te ((wipe σ vs).set j (some (V.int (0 + (i : Int))))) (upd H p (.lst ((List.range i).map f)))
      (fun y H4 => ∃ acc, H4 p = some (.lst acc) ∧ acc.length < sizeLine ∧ upd H4 p (.lst (acc ++ [y])) = upd H p (.lst ((List.range (i + 1)).map f)))
    rw [e0]
    refine ⟨hw _, he i _ _ hi ⟨_, upd_same, ?_, ?_⟩⟩
    · rw [List.length_map, List.length_range]
      exact Nat.lt_of_lt_of_le (show i < 16777216 by omega) (by rw [sizeLine_eq]; exact Nat.le_refl _)
    · rw [upd_upd, List.range_succ, List.map_append]
      rfl) fun H' e => by
    subst e
    exact q p _ hp (same_upd hp) upd_same
end
/-! lists of ints -/
theorem get_map {α : Type} {xs : List α} {f : α → V} {i : Nat} {x : V} (h : (xs.map f)[i]? = some x) : ∃ y, xs[i]? = some y ∧ x = f y := by
  rw [List.getElem?_map] at h
  cases e : xs[i]? with
  | none => rw [e] at h; cases h
  | some y => rw [e] at h; exact ⟨y, rfl, (Option.some.inj h).symm⟩
theorem cut_upto (xs : List V) (n : Nat) : cutV xs none (some (n : Int)) = xs.take n := by
  unfold cutV
  rw [HT.sIx_none, HT.sIx_nat, List.drop_zero, Nat.sub_zero]
  rcases Nat.le_total n xs.length with h | h
  · rw [Nat.min_eq_left h]
  · rw [Nat.min_eq_right h, List.take_of_length_le (Nat.le_refl _), List.take_of_length_le h]
theorem cut_from (xs : List V) (n : Nat) (h : n ≤ xs.length) : cutV xs (some (n : Int)) none = xs.drop n := by
  unfold cutV
  rw [HT.sIx_none, HT.sIx_nat, Nat.min_eq_left h]
  exact List.take_of_length_le (by rw [List.length_drop]; exact Nat.le_refl _)
/-- the cells of a law: at most 63 of the script, and nought behind -/
def cells (ns : List Int) : List Int := ns.take 63 ++ [0]
theorem cells_eq (ns : List Int) : cutV (ns.map V.int) none (some (63 : Int)) ++ [V.int 0] = (cells ns).map V.int := by
  rw [show (63 : Int) = ((63 : Nat) : Int) from rfl, cut_upto, cells, List.map_append, List.map_take]
  rfl
theorem cells_len (ns : List Int) : (cells ns).length ≤ 64 ∧ 1 ≤ (cells ns).length := by
  unfold cells
  rw [List.length_append, List.length_take, List.length_singleton]
  omega
theorem cutV_le (xs : List V) (lo hi : Option Int) {n : Nat} (h : xs.length ≤ n) : (cutV xs lo hi).length ≤ n := Nat.le_trans (cutV_length xs lo hi) h
/-! == of data -/
theorem w_neD {K : PySem.W.Frag} {H : Hp} {Q : VK} {x y : V} {d e : PyData} (hx : Dp K H x d) (hy : Dp K H y e) (sd : SeqAt.shaped d = true) (se : SeqAt.shaped e = true) (q : Q (.bl (!PyData.eqv d e)) H) : rNeD K x y H Q := ⟨d, e, hx, hy, sd, se, q⟩
theorem w_eqD {K : PySem.W.Frag} {H : Hp} {Q : VK} {x y : V} {d e : PyData} (hx : Dp K H x d) (hy : Dp K H y e) (sd : SeqAt.shaped d = true) (se : SeqAt.shaped e = true) (q : Q (.bl (PyData.eqv d e)) H) : rEqD K x y H Q := ⟨d, e, hx, hy, sd, se, q⟩
theorem w_neSame {K : PySem.W.Frag} {H : Hp} {Q : VK} {x y : V} (d : PyData) (hx : Dp K H x d) (hy : Dp K H y d) (sd : SeqAt.shaped d = true) (q : Q (.bl false) H) : rNeD K x y H Q :=
  ⟨d, d, hx, hy, sd, sd, by rw [SeqAt.eqv_refl d (SeqAt.canLay_of_shaped sd)]; exact q⟩
theorem w_eqSame {K : PySem.W.Frag} {H : Hp} {Q : VK} {x y : V} (d : PyData) (hx : Dp K H x d) (hy : Dp K H y d) (sd : SeqAt.shaped d = true) (q : Q (.bl true) H) : rEqD K x y H Q :=
  ⟨d, d, hx, hy, sd, sd, by rw [SeqAt.eqv_refl d (SeqAt.canLay_of_shaped sd)]; exact q⟩
theorem dp_ints {K : PySem.W.Frag} {H : Hp} : ∀ ns : List Int, DpAll K H (ns.map V.int) (ns.map PyData.int)
  | [] => .nil
  | n :: r => .cons (.int n) (dp_ints r)
theorem lay_ints : ∀ ns : List Int, PyData.canLayAll0 (ns.map PyData.int) = true
  | [] => rfl
  | n :: r => by
    show (PyData.canLay0 (.int n) && PyData.canLayAll0 (r.map PyData.int)) = true
    rw [lay_ints r]
    rfl
end Dpr

namespace Dpr
open PySem PySem.Spec PyProof.Rows L2
def topS (i : Nat) : Stmt := PySem.Challenge.pw_dotpress_k02_widths.main.body.getD i (.Pass ⟨0, 0, 0, 0⟩)
abbrev s_span_of_width : Stmt := topS 1
theorem sc_span_of_width : FnScope ["width", "half"] ["width"] (defScope s_span_of_width) := ⟨rfl, rfl, rfl, by decide +kernel, rfl, by decide +kernel, by decide +kernel⟩
abbrev s_law_whole : Stmt := topS 3
theorem sc_law_whole : FnScope ["_law_found"] ["_law_found"] (defScope s_law_whole) := ⟨rfl, rfl, rfl, by decide +kernel, rfl, by decide +kernel, by decide +kernel⟩
abbrev s_law : Stmt := topS 4
theorem sc_law : FnScope ["_law_script", "_law_cell", "_law_width", "_law_size", "_law_k", "_law_due", "_law_found"] ["_law_script"] (defScope s_law) := ⟨rfl, rfl, rfl, by decide +kernel, rfl, by decide +kernel, by decide +kernel⟩

structure Top (K : PySem.W.Frag) (mg : Str → Option Value) where
  a_span_of_width : Addr
  d_span_of_width : FuncData
  f_span_of_width : Fun K "span_of_width" "span_of_width" s_span_of_width a_span_of_width d_span_of_width
  b_span_of_width : Binds K d_span_of_width ["width"] []
  g_span_of_width : mg "span_of_width" = some (.ref a_span_of_width)
  a_law_whole : Addr
  d_law_whole : FuncData
  f_law_whole : Fun K "_law_whole" "_law_whole" s_law_whole a_law_whole d_law_whole
  b_law_whole : Binds K d_law_whole ["_law_found"] []
  g_law_whole : mg "_law_whole" = some (.ref a_law_whole)
  a_law : Addr
  d_law : FuncData
  f_law : Fun K "law" "law" s_law a_law d_law
  b_law : Binds K d_law ["_law_script"] []
  g_law : mg "law" = some (.ref a_law)
  z_abs : mg "abs" = none
  z_bool : mg "bool" = none
  z_int : mg "int" = none
  z_isinstance : mg "isinstance" = none
  z_len : mg "len" = none
  z_range : mg "range" = none
  z_tuple : mg "tuple" = none

section
variable {P : Program} {w : World} {K : PySem.W.Frag} {mg : Str → Option Value} {base : Heap}


/-! the walk: one step a construct -/
open PySem PySem.Spec PyProof.Rows L2 Dpr
local macro_rules | `(tactic| walk_at "sq") => `(tactic| first
  | assumption
  | exact SqL.of (by assumption)
  | exact SqT.of (by assumption)
  | (refine Same.seq (by assumption) ?_; walk_at "sq")
  | (refine Same.tup (by assumption) ?_; walk_at "sq"))
local macro_rules | `(tactic| walk_at "hp") => `(tactic| first
  | assumption
  | (refine (by assumption : Same _ _) _ _ ?_; walk_at "hp"))
local macro_rules | `(tactic| walk_at "w1") => `(tactic| first
  | with_reducible refine w_seq ?_
  | with_reducible refine w_asg ?_
  | ((with_reducible apply w_var); rfl)
  | with_reducible refine w_c ?_
  | with_reducible refine w_op ?_
  | with_reducible refine w_un ?_
  | with_reducible refine w_I0 ?_
  | with_reducible refine w_U ?_
  | with_reducible refine w_bl ?_
  | with_reducible refine w_test ?_
  | with_reducible refine w_tB ?_
  | ((with_reducible refine w_eq ?_ ?_); rfl)
  | ((with_reducible refine w_ne ?_ ?_); rfl)
  | with_reducible refine w_if ?_
  | with_reducible refine w_cons ?_
  | with_reducible refine w_nil ?_
  | with_reducible refine w_itT ?_
  | with_reducible refine w_itF ?_
  | ((with_reducible refine w_itC ?_ ?_); rfl)
  | ((with_reducible refine w_itD ?_ ?_); rfl)
  | with_reducible refine w_drop ?_
  | with_reducible refine w_ret ?_
  | with_reducible refine w_retN ?_
  | with_reducible refine w_next ?_
  | with_reducible refine w_cont ?_
  | with_reducible refine w_brk ?_
  | ((with_reducible apply w_aug); rfl)
  | with_reducible refine w_ipI ?_
  | with_reducible refine w_chain ?_
  | with_reducible refine w_and ?_
  | with_reducible refine w_or ?_
  | with_reducible refine w_not ?_
  | with_reducible refine w_andV ?_
  | with_reducible refine w_orV ?_
  | with_reducible refine w_notV ?_
  | with_reducible refine w_ifx ?_
  | with_reducible refine w_call ?_
  | with_reducible refine w_cb ?_
  | with_reducible refine w_for ?_
  | with_reducible refine w_lc ?_
  | with_reducible refine w_iL ?_
  | with_reducible refine w_iT ?_
  | with_reducible refine w_iR1 ?_
  | with_reducible refine w_iR2 ?_
  | ((with_reducible apply w_IL1); (walk_at "sq"))
  | ((with_reducible apply w_IT1); (walk_at "sq"))
  | ((with_reducible refine w_IR1 ?_ ?_); omega)
  | ((with_reducible refine w_IR2 ?_ ?_); omega)
  | ((with_reducible apply w_sl); (walk_at "sq"); intro _ _ _ _ _)
  | with_reducible refine w_tsl ?_
  | with_reducible refine w_tnp ?_
  | with_reducible refine w_tpt ?_
  | with_reducible refine w_pt ?_
  | ((with_reducible apply w_cat); (walk_at "hp"); (walk_at "hp"))
  | ((with_reducible apply w_listL); (walk_at "sq"); intro _ _ _ _ _)
  | ((with_reducible apply w_listT); (walk_at "sq"); intro _ _ _ _ _)
  | with_reducible refine w_tbits ?_
  | with_reducible refine w_bits ?_
  | with_reducible refine w_tup ?_
  | with_reducible refine w_lst ?_
  | ((with_reducible refine w_alT ?_ ?_); (exact sz_le rfl); intro _ _ _ _ _)
  | ((with_reducible refine w_alL ?_ ?_); (exact sz_le rfl); intro _ _ _ _ _)
  | with_reducible refine w_abs ?_
  | with_reducible refine w_max2 ?_
  | with_reducible refine w_min2 ?_
  | ((with_reducible refine w_I ?_ ?_); (first | exact ⟨by decide, by decide⟩ | exact ⟨by omega, by omega, by decide⟩ | (show (_ : Int) < _; omega) | (show (_ : Int) ≤ _; omega) | exact .of_left (by decide) | exact .of_right (by decide)))
  | ((with_reducible apply w_ixL); (walk_at "sq"); rfl)
  | ((with_reducible apply w_ixT); (walk_at "sq"); rfl)
  | ((with_reducible apply w_lenL); (walk_at "sq"))
  | ((with_reducible apply w_lenT); (walk_at "sq"))
  | (with_reducible refine w_isi (TyX.base (TyOf.int _)) (kit_ii _) ?_)
  | (with_reducible refine w_isi (TyX.base (TyOf.int _)) (kit_ib _) ?_)
  | (with_reducible refine w_isi (TyX.base (TyOf.bl _)) (kit_bi _) ?_)
  | (with_reducible refine w_isi (TyX.base (TyOf.bl _)) (kit_bb _) ?_)
  | (with_reducible refine w_isi (TyX.base (TyOf.str _)) (kit_ss _) ?_)
  | ((with_reducible apply w_isiT); (walk_at "hp"))
  | ((with_reducible apply w_isiL); (walk_at "hp")))
local macro_rules | `(tactic| walk_at "split") => `(tactic| first
  | ((with_reducible refine w_itI ?_ ?_) <;> intro _)
  | ((with_reducible refine w_itN ?_ ?_) <;> intro _)
  | ((with_reducible refine w_itn ?_ ?_) <;> intro _)
  | ((with_reducible refine w_itd ?_ ?_) <;> intro _)
  | ((with_reducible refine w_itb ?_ ?_) <;> intro _))
local macro_rules | `(tactic| walk_at "wk") => `(tactic| repeat' (walk_at "w1"))
local macro_rules | `(tactic| walk_at "ws") => `(tactic| repeat' (first | (walk_at "w1") | ((walk_at "split") <;> (try (exfalso; omega)))))

def sp_law_whole (K : PySem.W.Frag) : Sp := fun vs H Q _ => ∃ i : Int, vs = [.int i] ∧ Q (.bl true) H
theorem ok_law_whole (T : Top K mg) : FnOk P w K mg base CX0 1 T.a_law_whole T.d_law_whole ["_law_found"] (sp_law_whole K) := by
  refine T.f_law_whole.ok sc_law_whole (fun vs H Q E h => ?_) (fun cdv A outer s H vs Q E hr h => ?_)
  · obtain ⟨i, rfl, _⟩ := h
    rfl
  obtain ⟨i, rfl, h⟩ := h
  refine ⟨_, (pss_one (ps_ret (pe_and (pe_callB call_isi (by rfl) T.z_isinstance (by decide +kernel) (pa_cons (pv 0) (pa_cons (pe_bltn (v := .ty "int") (by rfl) T.z_int (by decide +kernel) rfl) pa_nil))) (pe_one (pe_not (pe_callB call_isi (by rfl) T.z_isinstance (by decide +kernel) (pa_cons (pv 0) (pa_cons (pe_bltn (v := .ty "bool") (by rfl) T.z_bool (by decide +kernel) rfl) pa_nil)))))))), ?_⟩
  try dsimp only [cxOf, Cx.nox, Cx.wish]
  walk_at "wk"
  exact h
theorem use_whole {i : Int} {H : Hp} {Q : VK} {E : XK} (h : Q (.bl true) H) : sp_law_whole K ([.int i] ++ []) H Q E := ⟨i, rfl, h⟩
local macro_rules | `(tactic| walk_at "w1") => `(tactic| with_reducible refine use_whole ?_)

def spanW (w : Int) : Int × Int := if 0 < w then (0, 2 ^ w.toNat - 1) else (-(2 ^ (-w - 1).toNat), 2 ^ (-w - 1).toNat - 1)
def sp_span_of_width (K : PySem.W.Frag) : Sp := fun vs H Q _ => ∃ w : Int, vs = [.int w] ∧ (w ≠ 0 ∧ -100 ≤ w ∧ w ≤ 100) ∧
  ∀ p H', H p = none → Same H H' → H' p = some (.tup [.int (spanW w).1, .int (spanW w).2]) → Q (.ref p) H'
theorem ok_span_of_width (T : Top K mg) : FnOk P w K mg base CX0 1 T.a_span_of_width T.d_span_of_width ["width"] (sp_span_of_width K) := by
  refine T.f_span_of_width.ok sc_span_of_width (fun vs H Q E h => ?_) (fun cdv A outer s H vs Q E hr h => ?_)
  · obtain ⟨z, rfl, _⟩ := h
    rfl
  obtain ⟨z, rfl, h⟩ := h
  refine ⟨_, (pss_cons (ps_if (pt_cmpR op_gt (pv 0) pe_int (nomark _)) (pss_one (ps_ret (pe_tup (pa_cons pe_int (pa_cons (pe_op op_sub (pe_op op_shl pe_int (pv 0)) pe_int) pa_nil))))) pss_nil)
      (pss_cons (ps_set (i := 1) sc_span_of_width.nd rfl (.inl rfl) (pe_op op_shl pe_int (pe_op op_sub (pe_un un_neg (pv 0)) pe_int)))
      (pss_one (ps_ret (pe_tup (pa_cons (pe_un un_neg (pv 1)) (pa_cons (pe_op op_sub (pv 1) pe_int) pa_nil))))))), ?_⟩
  try dsimp only [cxOf, Cx.nox, Cx.wish]
  obtain ⟨⟨h0, h1, h2⟩, h⟩ := h
  walk_at "ws"
  · rename_i hz p H1 hn hs hp
    refine h p H1 hn hs ?_
    rw [hp, spanW, if_pos hz, Int.one_mul]
  · rename_i hz p H1 hn hs hp
    refine h p H1 hn hs ?_
    rw [hp, spanW, if_neg hz, Int.one_mul]

theorem two_abs (c : Int) (h : c < 0) : (2 : Int) ^ (-c).toNat / 2 = 2 ^ (-c - 1).toNat := by
  obtain ⟨k, hk⟩ : ∃ k : Nat, (-c).toNat = k + 1 := ⟨(-c).toNat - 1, by omega⟩
  have h2 : (-c - 1).toNat = k := by omega
  rw [hk, h2, Int.pow_succ]
  omega
theorem due_eq (c : Int) (h : c ≠ 0) : spanW c = (if c < 0 then (-((2 : Int) ^ (if c < 0 then -c else c).toNat / 2), (2 : Int) ^ (if c < 0 then -c else c).toNat / 2 - 1) else (0, (2 : Int) ^ (if c < 0 then -c else c).toNat - 1)) := by
  unfold spanW
  by_cases hc : c < 0
  · rw [if_neg (by omega), if_pos hc, if_pos hc, two_abs c hc]
  · rw [if_pos (by omega), if_neg hc, if_neg hc]
def sp_law (K : PySem.W.Frag) : Sp := fun vs H Q _ => ∃ (a : Addr) (ns : List Int), vs = [.ref a] ∧ SqL K H a (ns.map V.int) ∧ ns.length ≤ 63 ∧ ∀ H', Q (.bl true) H'
theorem ok_law (T : Top K mg) : FnOk P w K mg base CX0 2 T.a_law T.d_law ["_law_script"] (sp_law K) := by
  refine T.f_law.ok sc_law (fun vs H Q E h => ?_) (fun cdv A outer s H vs Q E hr h => ?_)
  · obtain ⟨a, ns, rfl, _⟩ := h
    rfl
  obtain ⟨a, ns, rfl, h⟩ := h
  refine ⟨_, (pss_cons (ps_for PassesOwn.never rfl (pi_list (pe_op op_cat (pe_slice sl_list (pv 0) po_none (po_some pe_int)) (pe_lst (pa_cons pe_int pa_nil)))) (pg_name (i := 1) sc_law.nd rfl (.inl rfl))
      (pss_cons (ps_set (i := 2) sc_law.nd rfl (.inl rfl) (pe_op op_sub (pe_op op_mod (pv 1) pe_int) pe_int))
      (Evl.pss_cut (ps_if (pt_cmpR op_ge (pv 2) pe_int (nomark _)) (pss_one (ps_set (i := 2) sc_law.nd rfl (.inl rfl) (pe_op op_add (pv 2) pe_int))) pss_nil)
      (pss_cons (ps_set (i := 3) sc_law.nd rfl (.inl rfl) pe_int)
      (pss_cons (ps_for PassesOwn.never rfl (pi_range1 (by rfl) T.z_range (pa_cons (pe_callB c_abs (by rfl) T.z_abs (by decide +kernel) (pa_cons (pv 2) pa_nil)) pa_nil)) (pg_name (i := 4) sc_law.nd rfl (.inl rfl))
      (pss_one (ps_set (i := 3) sc_law.nd rfl (.inl rfl) (pe_op op_mulI (pv 3) pe_int))))
      (pss_cons (ps_set (i := 5) sc_law.nd rfl (.inl rfl) (pe_tup (pa_cons pe_int (pa_cons (pe_op op_sub (pv 3) pe_int) pa_nil))))
      (Evl.pss_cut (ps_if (pt_cmpR op_lt (pv 2) pe_int (nomark _)) (pss_one (ps_set (i := 5) sc_law.nd rfl (.inl rfl) (pe_tup (pa_cons (pe_un un_neg (pe_op op_fdiv (pv 3) pe_int)) (pa_cons (pe_op op_sub (pe_op op_fdiv (pv 3) pe_int) pe_int) pa_nil))))) pss_nil)
      (pss_cons (ps_set (i := 6) sc_law.nd rfl (.inl rfl) (pe_call (ok_span_of_width T) (hr.mono (by decide)) (by rfl) T.g_span_of_width T.f_span_of_width.kp T.b_span_of_width .nil pass0 (pa_cons (pv 2) pa_nil)))
      (pss_cons (ps_if (PW.pt (pw_or (pt_not (pt_val (pe_callB call_isi (by rfl) T.z_isinstance (by decide +kernel) (pa_cons (pv 6) (pa_cons (pe_bltn (v := .ty "tuple") (by rfl) T.z_tuple (by decide +kernel) rfl) pa_nil))))) (pw_or1 (pt_cmpR op_ne (pe_callB c_len (by rfl) T.z_len PySem.boot_len (pa_cons (pv 6) pa_nil)) pe_int (nomark _))))) (pss_one (ps_ret pe_bl)) pss_nil)
      (pss_one (ps_if (PW.pt (pw_or (pt_not (pt_val (pe_call (ok_law_whole T) (hr.mono (by decide)) (by rfl) T.g_law_whole T.f_law_whole.kp T.b_law_whole .nil pass0 (pa_cons (pe_ix ix_tup (pv 6) pe_int (fun _ _ => rfl)) pa_nil)))) (pw_or (pt_not (pt_val (pe_call (ok_law_whole T) (hr.mono (by decide)) (by rfl) T.g_law_whole T.f_law_whole.kp T.b_law_whole .nil pass0 (pa_cons (pe_ix ix_tup (pv 6) pe_int (fun _ _ => rfl)) pa_nil)))) (pw_or1 (pt_cmpR (op_neD hr.units) (pv 6) (pv 5) (nomark _)))))) (pss_one (ps_ret pe_bl)) pss_nil)))))))))))
      (pss_one (ps_ret pe_bl))), ?_⟩
  try dsimp only [cxOf, Cx.nox, Cx.wish]
  obtain ⟨hS, hlen, h⟩ := h
  walk_at "ws"
  · exact Nat.le_trans (Nat.add_le_add_right (cutV_le _ _ _ (by rw [List.length_map]; exact hlen)) 1) (by decide)
  rename_i l1 H1 n1 s1 e1 p2 H2 n2 s2 e2
  rw [cells_eq]
  intro l H3 n3 s3 e3
  walk_at "ws"
  refine for_l ((cells ns).map V.int) (fun i σ' H' => ∃ y1 y2 y3 y4 y5 y6, σ' = [some (.ref a), y1, y2, y3, y4, y5, y6] ∧ Same H3 H') ⟨_, _, _, _, _, _, rfl, Same.refl _⟩ (fun i σ' H' _ p => ?_) (fun i x σ' H' hx p => ?_) (fun σ' H' p => ?_)
  · obtain ⟨y1, y2, y3, y4, y5, y6, rfl, sm⟩ := p
    exact sm.seq (SqL.of e3)
  · obtain ⟨y1, y2, y3, y4, y5, y6, rfl, sm⟩ := p
    obtain ⟨c, hc, rfl⟩ := get_map hx
    walk_at "ws"
    refine w_cut (fun σ' H'' => ∃ z : Int, σ' = [some (.ref a), some (.int c), some (.int z), y3, y4, y5, y6] ∧ Same H' H'' ∧ z ≠ 0 ∧ -24 ≤ z ∧ z ≤ 24) ?_ ?_
    · walk_at "ws"
      · exact ⟨_, rfl, Same.refl _, by omega, by omega, by omega⟩
      · exact ⟨_, rfl, Same.refl _, by omega, by omega, by omega⟩
    rintro σ1 G0 ⟨z, rfl, sm0, z0, z1, z2⟩
    walk_at "ws"
    refine for_r (fun i σ' H'' => ∃ y4, σ' = [some (.ref a), some (.int c), some (.int z), some (.int (2 ^ i)), y4, y5, y6] ∧ Same H' H'') ⟨_, rfl, sm0⟩ (fun k σ' H'' hk p => ?_) (fun σ' H'' p => ?_)
    · obtain ⟨y4, rfl, sm1⟩ := p
      walk_at "ws"
      exact ⟨_, by rw [Int.pow_succ]; rfl, sm1⟩
    obtain ⟨y4, rfl, sm1⟩ := p
    walk_at "ws"
    rename_i p1 G1 m1 t1 f1
    refine w_cut (fun σ' G' => ∃ p, σ' = [some (.ref a), some (.int c), some (.int z), some (.int (2 ^ (if z < 0 then -z else z).toNat)), y4, some (.ref p), y6] ∧ Same H'' G' ∧ G' p = some (.tup [.int (spanW z).1, .int (spanW z).2])) ?_ ?_
    · walk_at "ws"
      · rename_i hz p3 G3 m3 t3 f3
        refine ⟨p3, rfl, t1.trans t3, ?_⟩
        rw [f3, due_eq z z0]
        simp only [if_pos hz]
      · rename_i hz
        refine ⟨p1, rfl, t1, ?_⟩
        rw [f1, due_eq z z0]
        simp only [if_neg hz]
    rintro σ1 G ⟨p, rfl, tG, fG⟩
    walk_at "ws"
    refine ⟨z, rfl, ⟨z0, by omega, by omega⟩, fun q G2 m2 t2 f2 => ?_⟩
    walk_at "ws"
    refine w_neSame (.tuple [.int (spanW z).1, .int (spanW z).2]) (.tup (SqT.of f2) (.cons (.int _) (.cons (.int _) .nil))) (.tup (SqT.of (t2 _ _ fG)) (.cons (.int _) (.cons (.int _) .nil))) (by rfl) ?_
    walk_at "ws"
    exact ⟨_, _, _, _, _, _, rfl, ((sm.trans sm1).trans tG).trans t2⟩
  · walk_at "ws"
    exact h _
end
theorem end_sp_law {K : PySem.W.Frag} {H : Hp} {a : Addr} {ns : List Int} (hl : ns.length ≤ 63) (_ : Only H) (hS : SqL K H a (ns.map V.int)) : sp_law K [.ref a] H (fun v _ => v = .bl true) fun _ _ _ => False :=
  ⟨a, ns, rfl, hS, hl, fun _ => rfl⟩
theorem all_mk {l : PySem.W.OpenLaw} {w : World} {K : PySem.W.Frag} {h : Heap} {mg : Str → Option Value} {fa ha0 ha1 ha2 : Addr} (X : K.In h) (G : h.Ns mainGlobals mg) (hfa : mg "law" = some (.ref fa))
    {od0 an0 od1 an1 od2 an2 : Option Addr} {shl0 shl1 shl2 : Array (Option Value)} {oc0 kV0 dc0 pm0 cd0 ct0 oc1 kV1 dc1 pm1 cd1 ct1 oc2 kV2 dc2 pm2 cd2 ct2 : Value}
    (hg0 : PySem.W.nsIn K mainGlobals "span_of_width" = some (some (.ref ha0)))
    (hl0 : K.lookup ha0 = some ⟨oc0, od0, .func (PySem.W.fnOf "span_of_width" "span_of_width" (defArgs s_span_of_width) (defBody s_span_of_width) (defScope s_span_of_width) .none kV0 dc0 pm0 an0 cd0 ct0), shl0⟩)
    (hk0 : PySem.W.codeIn K cd0 "span_of_width" = true)
    (hp0 : PySem.W.keepIn K (.ref ha0) = true)
    (hg1 : PySem.W.nsIn K mainGlobals "_law_whole" = some (some (.ref ha1)))
    (hl1 : K.lookup ha1 = some ⟨oc1, od1, .func (PySem.W.fnOf "_law_whole" "_law_whole" (defArgs s_law_whole) (defBody s_law_whole) (defScope s_law_whole) .none kV1 dc1 pm1 an1 cd1 ct1), shl1⟩)
    (hk1 : PySem.W.codeIn K cd1 "_law_whole" = true)
    (hp1 : PySem.W.keepIn K (.ref ha1) = true)
    (hg2 : PySem.W.nsIn K mainGlobals "law" = some (some (.ref ha2)))
    (hl2 : K.lookup ha2 = some ⟨oc2, od2, .func (PySem.W.fnOf "law" "law" (defArgs s_law) (defBody s_law) (defScope s_law) .none kV2 dc2 pm2 an2 cd2 ct2), shl2⟩)
    (hk2 : PySem.W.codeIn K cd2 "law" = true)
    (hp2 : PySem.W.keepIn K (.ref ha2) = true)
    (z_abs : PySem.W.nsIn K mainGlobals "abs" = some none)
    (z_bool : PySem.W.nsIn K mainGlobals "bool" = some none)
    (z_int : PySem.W.nsIn K mainGlobals "int" = some none)
    (z_isinstance : PySem.W.nsIn K mainGlobals "isinstance" = some none)
    (z_len : PySem.W.nsIn K mainGlobals "len" = some none)
    (z_range : PySem.W.nsIn K mainGlobals "range" = some none)
    (z_tuple : PySem.W.nsIn K mainGlobals "tuple" = some none) :
    ∃ fd : FuncData, (∀ (s : Shared) (v : Value), BindsTo s fd ⟨[v], []⟩ [("_law_script", v)]) ∧ ∀ base : Heap, K.In base → base.Ns mainGlobals mg → FnOk l.prog w K mg base CX0 2 fa fd ["_law_script"] (sp_law K) := by
  have e := hfa.symm.trans (PySem.W.mg_of X G hg2)
  cases e
  have F0 := fun_mk (st := s_span_of_width) hl0 hk0 hp0
  have B0 := F0.binds (ps := ["width"]) fun _ _ _ _ _ _ us hl => match us, hl with | [_], _ => rfl
  have F1 := fun_mk (st := s_law_whole) hl1 hk1 hp1
  have B1 := F1.binds (ps := ["_law_found"]) fun _ _ _ _ _ _ us hl => match us, hl with | [_], _ => rfl
  have F2 := fun_mk (st := s_law) hl2 hk2 hp2
  have B2 := F2.binds (ps := ["_law_script"]) fun _ _ _ _ _ _ us hl => match us, hl with | [_], _ => rfl
  let T : Top K mg := ⟨ha0,
    _,
    F0,
    B0,
    PySem.W.mg_of X G hg0,
    ha1,
    _,
    F1,
    B1,
    PySem.W.mg_of X G hg1,
    fa,
    _,
    F2,
    B2,
    PySem.W.mg_of X G hg2,
    PySem.W.mg_none_of X G z_abs,
    PySem.W.mg_none_of X G z_bool,
    PySem.W.mg_none_of X G z_int,
    PySem.W.mg_none_of X G z_isinstance,
    PySem.W.mg_none_of X G z_len,
    PySem.W.mg_none_of X G z_range,
    PySem.W.mg_none_of X G z_tuple⟩
  exact ⟨T.d_law, fun s v => .of_eq rfl, fun base _ _ => ok_law T⟩
end Dpr
open PySem PySem.W PyProof.Rows
set_option maxHeartbeats 0 in
theorem PySem.Challenge.cw_dotpress_k02_widths_holds : PySem.Challenge.rw_dotpress_k02_widths.Holds := by
  w_on; o_law; k_head; (case hw => w_witness2)
  k_fill
  refine L2.walk_of (l := PySem.Challenge.rw_dotpress_k02_widths) (n := 63) (k := 2) (x := "_law_script") (CX := fun _ => L2.CX0) (sp := fun w => Dpr.sp_law _) rfl (by decide) rfl ⟨rfl, by decide, by decide⟩ (fun w h Y => PySem.W.kIn_of Y) ?F (fun w H a ns hl hO hS => Dpr.end_sp_law hl hO hS) (fun _ _ _ _ _ h => h)
  case F =>
    intro w mg fa h KX G hmg
    refine' Dpr.all_mk KX G hmg ?hg0 ?hl0 ?hk0 ?hp0 ?hg1 ?hl1 ?hk1 ?hp1 ?hg2 ?hl2 ?hk2 ?hp2 ?z_abs ?z_bool ?z_int ?z_isinstance ?z_len ?z_range ?z_tuple
    (case hg0 => k_is)
    (case hl0 => k_is)
    (case hk0 => k_is)
    (case hp0 => k_is)
    (case hg1 => k_is)
    (case hl1 => k_is)
    (case hk1 => k_is)
    (case hp1 => k_is)
    (case hg2 => k_is)
    (case hl2 => k_is)
    (case hk2 => k_is)
    (case hp2 => k_is)
    (case z_abs => k_is)
    (case z_bool => k_is)
    (case z_int => k_is)
    (case z_isinstance => k_is)
    (case z_len => k_is)
    (case z_range => k_is)
    (case z_tuple => k_is)


