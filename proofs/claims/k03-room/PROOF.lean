import PyProof.Rows.All
import Wide.All
import OpenK.AllK
import Wide.FinOn
import HandS.ForMost
import HandS.IsInst
import HandS.WideBits
import HandS.Wide
import HandS.EndBits
import HandS.Evl
import PySem.Challenge.RW_dotpress_k03_the_room_of_a_span
set_option Elab.async false
set_option linter.all false
set_option maxRecDepth 100000
set_option maxHeartbeats 4000000


namespace Dpr
open PySem PySem.Spec PyProof.Rows L2
/-! ### steps of a reading, one a construct -/
section
variable {K : PySem.W.Frag} {D : Ends} {σ : L2.St} {H : Hp} {Q : VK} {QB : Bool → Hp → Prop} {QA : List V → Hp → Prop} {ta tb tc te : TE} {t u : TS} {c : TT} {g : TG} {r r' : R2} {v x y : V}
theorem w_seq (h : t { D with nx := u D } σ H) : tSeq t u D σ H := h
theorem w_cut (M : L2.St → Hp → Prop) (h : t { D with nx := M } σ H) (k : ∀ σ' H', M σ' H' → u D σ' H') : Evl.tCut t u D σ H := ⟨M, h, k⟩
theorem w_asg {i : Nat} (h : te σ H fun v H1 => D.nx (σ.set i (some v)) H1) : tAsg te (gName i) D σ H := h
theorem w_asgG (h : te σ H fun v H1 => g v σ H1 D.nx) : tAsg te g D σ H := h
theorem w_drop (h : te σ H fun _ H1 => D.nx σ H1) : tDrop te D σ H := h
theorem w_ret (h : te σ H D.rt) : tRet te D σ H := h
theorem w_retN (h : D.rt .non H) : tRetN D σ H := h
theorem w_next (h : D.nx σ H) : tNext D σ H := h
theorem w_cont (h : D.ct σ H) : tCont D σ H := h
theorem w_brk (h : D.bk σ H) : tBreak D σ H := h
theorem w_if (h : c σ H fun b H1 => if b = true then t D σ H1 else u D σ H1) : tIfS c t u D σ H := h
theorem w_aug {i : Nat} {ti : TIp} (hx : σ[i]? = some (some x)) (h : te σ H fun y H1 => ti x y H1 fun z H2 => D.nx (σ.set i (some z)) H2) : tAug i te ti D σ H := ⟨x, hx, h⟩
theorem w_ipI {f : Int → Int → Int} {i j : Int} (h : Q (.int (f i j)) H) : ipI f (.int i) (.int j) H Q := ⟨i, j, rfl, rfl, h⟩
theorem w_var {i : Nat} (hx : σ[i]? = some (some v)) (h : Q v H) : tVar i σ H Q := ⟨v, hx, h⟩
theorem w_c (h : Q v H) : tC v σ H Q := h
theorem w_op (h : ta σ H fun x H1 => tb σ H1 fun y H2 => r x y H2 Q) : tOp r ta tb σ H Q := h
theorem w_un {f : V → Hp → VK → Prop} (h : ta σ H fun x H1 => f x H1 Q) : tUn f ta σ H Q := h
theorem w_chain (h : ta σ H fun x H1 => tb σ H1 fun y H2 => r x y H2 fun z H3 => ∃ k, z = .bl k ∧ (if k = true then tc σ H3 fun w' H4 => r' y w' H4 Q else Q (.bl false) H3)) : tChain r r' ta tb tc σ H Q := h
theorem w_test (h : te σ H fun x H1 => ∃ k, x = .bl k ∧ QB k H1) : tTest te σ H QB := h
theorem w_tB (h : te σ H fun x H1 => ∃ k, x = .bl k ∧ QB k H1) : tB te σ H QB := h
theorem w_bl {b : Bool} {P : Bool → Prop} (h : P b) : ∃ k, V.bl b = .bl k ∧ P k := ⟨b, rfl, h⟩
theorem w_and {t u : TT} (h : t σ H fun c H1 => if c = true then u σ H1 QB else QB false H1) : tAnd t u σ H QB := h
theorem w_or {t u : TT} (h : t σ H fun c H1 => if c = true then QB true H1 else u σ H1 QB) : tOr t u σ H QB := h
theorem w_not {t : TT} (h : t σ H fun c H1 => QB (!c) H1) : tNot t σ H QB := h
theorem w_andV (h : ta σ H fun x H1 => ∃ c, x = .bl c ∧ if c = true then tb σ H1 Q else Q (.bl false) H1) : tAndV ta tb σ H Q := h
theorem w_orV (h : ta σ H fun x H1 => ∃ c, x = .bl c ∧ if c = true then Q (.bl true) H1 else tb σ H1 Q) : tOrV ta tb σ H Q := h
theorem w_notV (h : ta σ H fun x H1 => ∃ c, x = .bl c ∧ Q (.bl (!c)) H1) : tNotV ta σ H Q := h
theorem w_ifx {t : TT} (h : t σ H fun c H1 => if c = true then ta σ H1 Q else tb σ H1 Q) : tIf t ta tb σ H Q := h
theorem w_nil (h : QA [] H) : tNil σ H QA := h
theorem w_cons {tr : TA} (h : ta σ H fun x H1 => tr σ H1 fun xs H2 => QA (x :: xs) H2) : tCons ta tr σ H QA := h
/-- a new tuple, a new list: the heap is a letter -/
def AlT (xs : List V) (H : Hp) (Q : VK) : Prop := xs.length ≤ sizeLine ∧ ∀ p, H p = none → Q (.ref p) (upd H p (.tup xs))
def AlL (xs : List V) (H : Hp) (Q : VK) : Prop := xs.length ≤ sizeLine ∧ ∀ p, H p = none → Q (.ref p) (upd H p (.lst xs))
theorem same_upd {H : Hp} {p : Addr} {o : HO} (h : H p = none) : Same H (upd H p o) := fun b x e => by
  rw [upd_ne (ne_of_none e h)]
  exact e
theorem w_tup {s : TA} (h : s σ H fun xs H1 => AlT xs H1 Q) : tTup s σ H Q := h
theorem w_lst {s : TA} (h : s σ H fun xs H1 => AlL xs H1 Q) : tLst s σ H Q := h
theorem sz_le {n : Nat} (h : Nat.ble n 1000 = true) : n ≤ sizeLine := Nat.le_trans (Nat.le_of_ble_eq_true h) (by rw [sizeLine_eq]; decide)
theorem w_alT {xs : List V} (hl : xs.length ≤ sizeLine) (h : ∀ p H', H p = none → Same H H' → H' p = some (.tup xs) → Q (.ref p) H') : AlT xs H Q := ⟨hl, fun p hp => h p _ hp (same_upd hp) upd_same⟩
theorem w_alL {xs : List V} (hl : xs.length ≤ sizeLine) (h : ∀ p H', H p = none → Same H H' → H' p = some (.lst xs) → Q (.ref p) H') : AlL xs H Q := ⟨hl, fun p hp => h p _ hp (same_upd hp) upd_same⟩
theorem w_call {sp : Sp} {dvs : List V} {E : XK} {s : TA} (h : s σ H fun vs H1 => sp (vs ++ dvs) H1 Q E) : tCall sp dvs E s σ H Q := h
theorem w_cb {f : List V → Hp → VK → Prop} {s : TA} (h : s σ H fun vs H1 => f vs H1 Q) : tCB f s σ H Q := h
theorem w_I0 {f : Int → Int → V} {i j : Int} (h : Q (f i j) H) : rI0 f (.int i) (.int j) H Q := ⟨i, j, rfl, rfl, h⟩
theorem w_I {C : Int → Int → Prop} {f : Int → Int → V} {i j : Int} (hc : C i j) (h : Q (f i j) H) : rI C f (.int i) (.int j) H Q := ⟨i, j, rfl, rfl, hc, h⟩
theorem w_U {f : Int → V} {i : Int} (h : Q (f i) H) : rU f (.int i) H Q := ⟨i, rfl, h⟩
theorem w_eq (hs : scal x y = true) (h : Q (.bl (decide (x = y))) H) : rEq x y H Q := ⟨hs, h⟩
theorem w_ne (hs : scal x y = true) (h : Q (.bl (!decide (x = y))) H) : rNe x y H Q := ⟨hs, h⟩
theorem w_bits {i : Int} (h : Q (.int (Builtin.Int.intBits i : Nat)) H) : (∃ j, V.int i = .int j ∧ Q (.int (Builtin.Int.intBits j : Nat)) H) := ⟨i, rfl, h⟩
theorem w_tbits (h : te σ H fun x H1 => ∃ i, x = .int i ∧ Q (.int (Builtin.Int.intBits i : Nat)) H1) : tBits te σ H Q := h
theorem w_ixL {p : Addr} {xs : List V} {i : Int} (hl : SqL K H p xs) (ha : atI xs i = some v) (h : Q v H) : rIxL K (.ref p) (.int i) H Q := ⟨p, xs, i, v, rfl, rfl, hl, ha, h⟩
theorem w_ixT {p : Addr} {xs : List V} {i : Int} (hl : SqT K H p xs) (ha : atI xs i = some v) (h : Q v H) : rIxT K (.ref p) (.int i) H Q := ⟨p, xs, i, v, rfl, rfl, hl, ha, h⟩
/-! tests -/
theorem w_itT {A B : Prop} (h : A) : if true = true then A else B := by rw [if_pos rfl]; exact h
theorem w_itF {A B : Prop} (h : B) : if false = true then A else B := by rw [if_neg Bool.false_ne_true]; exact h
theorem w_itC {b : Bool} {A B : Prop} (e : b = true) (h : A) : if b = true then A else B := by rw [if_pos e]; exact h
theorem w_itD {b : Bool} {A B : Prop} (e : b = false) (h : B) : if b = true then A else B := by rw [e, if_neg Bool.false_ne_true]; exact h
theorem w_itI {i j : Int} {A B : Prop} (h1 : i = j → A) (h2 : i ≠ j → B) : if decide (V.int i = V.int j) = true then A else B := by
  by_cases e : i = j
  · rw [if_pos (by rw [e]; exact decide_eq_true rfl)]; exact h1 e
  · rw [if_neg (fun z => e (V.int.inj (of_decide_eq_true z)))]; exact h2 e
theorem w_itN {i j : Int} {A B : Prop} (h1 : i ≠ j → A) (h2 : i = j → B) : if (!decide (V.int i = V.int j)) = true then A else B := by
  by_cases e : i = j
  · rw [e, decide_eq_true rfl]; exact w_itF (h2 e)
  · rw [decide_eq_false (fun z => e (V.int.inj z))]; exact w_itT (h1 e)
theorem w_itd {p A B : Prop} [Decidable p] (h1 : p → A) (h2 : ¬ p → B) : if decide p = true then A else B := by
  by_cases e : p
  · rw [if_pos (decide_eq_true e)]; exact h1 e
  · rw [if_neg (fun z => e (of_decide_eq_true z))]; exact h2 e
theorem w_itn {p A B : Prop} [Decidable p] (h1 : ¬ p → A) (h2 : p → B) : if (!decide p) = true then A else B := by
  by_cases e : p
  · rw [decide_eq_true e]; exact w_itF (h2 e)
  · rw [decide_eq_false e]; exact w_itT (h1 e)
theorem w_itb {b : Bool} {A B : Prop} (h1 : b = true → A) (h2 : b = false → B) : if b = true then A else B := by
  cases b with
  | true => exact w_itT (h1 rfl)
  | false => exact w_itF (h2 rfl)
end
/-! calls of built-ins, by names of our own -/
def rLen (K : PySem.W.Frag) : List V → Hp → VK → Prop := fun xs H Q => ∃ p ys, xs = [.ref p] ∧ (SqL K H p ys ∨ SqT K H p ys) ∧ Q (.int ys.length) H
theorem c_len {X : Cx} : CallR X (.builtin "len") (rLen X.K) := call_len_seq
theorem w_lenL {K : PySem.W.Frag} {H : Hp} {Q : VK} {p : Addr} {xs : List V} (h : SqL K H p xs) (q : Q (.int (xs.length : Int)) H) : rLen K [.ref p] H Q := ⟨p, xs, rfl, .inl h, q⟩
theorem w_lenT {K : PySem.W.Frag} {H : Hp} {Q : VK} {p : Addr} {xs : List V} (h : SqT K H p xs) (q : Q (.int (xs.length : Int)) H) : rLen K [.ref p] H Q := ⟨p, xs, rfl, .inr h, q⟩
def rAbs : List V → Hp → VK → Prop := fun xs H Q => ∃ i, xs = [.int i] ∧ Q (.int (if i < 0 then -i else i)) H
theorem c_abs {X : Cx} : CallR X (.builtin "abs") rAbs := call_abs
theorem w_abs {H : Hp} {Q : VK} {i : Int} (q : Q (.int (if i < 0 then -i else i)) H) : rAbs [.int i] H Q := ⟨i, rfl, q⟩
def rMax2 : List V → Hp → VK → Prop := fun xs H Q => ∃ i j, xs = [.int i, .int j] ∧ Q (.int (if j > i then j else i)) H
def rMin2 : List V → Hp → VK → Prop := fun xs H Q => ∃ i j, xs = [.int i, .int j] ∧ Q (.int (if j < i then j else i)) H
theorem c_max2 {X : Cx} (hc : X.calm = true) : CallR X (.builtin "max") rMax2 := call_max2 hc
theorem c_min2 {X : Cx} (hc : X.calm = true) : CallR X (.builtin "min") rMin2 := call_min2 hc
theorem w_max2 {H : Hp} {Q : VK} {i j : Int} (q : Q (.int (if j > i then j else i)) H) : rMax2 [.int i, .int j] H Q := ⟨i, j, rfl, q⟩
theorem w_min2 {H : Hp} {Q : VK} {i j : Int} (q : Q (.int (if j < i then j else i)) H) : rMin2 [.int i, .int j] H Q := ⟨i, j, rfl, q⟩
def rListOf (K : PySem.W.Frag) : List V → Hp → VK → Prop := fun xs H Q => ∃ p ys, xs = [.ref p] ∧ (SqL K H p ys ∨ SqT K H p ys) ∧ ∀ l, H l = none → Q (.ref l) (upd H l (.lst ys))
theorem c_list {X : Cx} : CallR X (.type "list") (rListOf X.K) := call_list_of
theorem w_listL {K : PySem.W.Frag} {H : Hp} {Q : VK} {p : Addr} {xs : List V} (h : SqL K H p xs) (q : ∀ l H', H l = none → Same H H' → H' l = some (.lst xs) → Q (.ref l) H') : rListOf K [.ref p] H Q := ⟨p, xs, rfl, .inl h, fun l hl => q l _ hl (same_upd hl) upd_same⟩
theorem w_listT {K : PySem.W.Frag} {H : Hp} {Q : VK} {p : Addr} {xs : List V} (h : SqT K H p xs) (q : ∀ l H', H l = none → Same H H' → H' l = some (.lst xs) → Q (.ref l) H') : rListOf K [.ref p] H Q := ⟨p, xs, rfl, .inr h, fun l hl => q l _ hl (same_upd hl) upd_same⟩
/-- a product of two ints of any size that the model allows -/
theorem op_mulI {X : Cx} : OpR X (binaryOp .Mult) (rI IntMulOk fun i j => .int (i * j)) := opI fun _ _ _ _ _ _ _ hc q => mul_int q hc
/-- isinstance, the answer told -/
theorem w_isi {K : PySem.W.Frag} {H : Hp} {Q : VK} {x : V} {t : Value} {n : String} {b : Bool} (ty : TyX K H x t) (e : PySem.W.kitOne K t (.type n) = some b) (q : Q (.bl b) H) : rIsi K [x, .ty n] H Q := ⟨x, .ty n, t, _, b, rfl, .ty n, ty, e, q⟩
theorem kit_ii (K : PySem.W.Frag) : PySem.W.kitOne K (.type "int") (.type "int") = some true := kit_ty (by decide +kernel)
theorem kit_ib (K : PySem.W.Frag) : PySem.W.kitOne K (.type "int") (.type "bool") = some false := kit_ty (by decide +kernel)
theorem kit_bi (K : PySem.W.Frag) : PySem.W.kitOne K (.type "bool") (.type "int") = some true := kit_ty (by decide +kernel)
theorem kit_bb (K : PySem.W.Frag) : PySem.W.kitOne K (.type "bool") (.type "bool") = some true := kit_ty (by decide +kernel)
theorem kit_ll (K : PySem.W.Frag) : PySem.W.kitOne K (.type "list") (.type "list") = some true := kit_ty (by decide +kernel)
theorem kit_tt (K : PySem.W.Frag) : PySem.W.kitOne K (.type "tuple") (.type "tuple") = some true := kit_ty (by decide +kernel)
theorem kit_ss (K : PySem.W.Frag) : PySem.W.kitOne K (.type "str") (.type "str") = some true := kit_ty (by decide +kernel)
theorem w_isiT {K : PySem.W.Frag} {H : Hp} {Q : VK} {p : Addr} {xs : List V} (e : H p = some (.tup xs)) (q : Q (.bl true) H) : rIsi K [.ref p, .ty "tuple"] H Q := w_isi (TyX.base (TyOf.tup e)) (kit_tt K) q
theorem w_isiL {K : PySem.W.Frag} {H : Hp} {Q : VK} {p : Addr} {xs : List V} (e : H p = some (.lst xs)) (q : Q (.bl true) H) : rIsi K [.ref p, .ty "list"] H Q := w_isi (TyX.base (TyOf.lst e)) (kit_ll K) q
theorem kit_tl (K : PySem.W.Frag) : PySem.W.kitOne K (.type "tuple") (.type "list") = some false := kit_ty (by decide +kernel)
theorem kit_lt (K : PySem.W.Frag) : PySem.W.kitOne K (.type "list") (.type "tuple") = some false := kit_ty (by decide +kernel)
/-! slices and sums of lists -/
section
variable {K : PySem.W.Frag} {σ : L2.St} {H : Hp} {Q : VK} {te : TE} {tl th : TO} {QO : Option Int → Hp → Prop}
theorem w_tsl {f : V → Option Int → Option Int → Hp → VK → Prop} (h : te σ H fun x H1 => tl σ H1 fun l H2 => th σ H2 fun u H3 => f x l u H3 Q) : tSl f te tl th σ H Q := h
theorem w_tnp (h : QO none H) : tNoPart σ H QO := h
theorem w_tpt (h : te σ H fun x H1 => ∃ i, x = .int i ∧ QO (some i) H1) : tPart te σ H QO := h
theorem w_pt {i : Int} {P : Int → Prop} (h : P i) : ∃ j, V.int i = .int j ∧ P j := ⟨i, rfl, h⟩
theorem w_sl {p : Addr} {xs : List V} {lo hi : Option Int} (h : SqL K H p xs) (q : ∀ l H', H l = none → Same H H' → H' l = some (.lst (cutV xs lo hi)) → Q (.ref l) H') : rSlL K (.ref p) lo hi H Q :=
  ⟨p, xs, rfl, h, fun l hl => q l _ hl (same_upd hl) upd_same⟩
theorem w_cat {p b : Addr} {xs ys : List V} (h1 : H p = some (.lst xs)) (h2 : H b = some (.lst ys)) (hz : xs.length + ys.length ≤ 16000000) (q : ∀ l H', H l = none → Same H H' → H' l = some (.lst (xs ++ ys)) → Q (.ref l) H') : rCat (.ref p) (.ref b) H Q :=
  ⟨p, b, xs, ys, rfl, rfl, h1, h2, Nat.le_trans hz (by rw [sizeLine_eq]; decide), fun l hl => q l _ hl (same_upd hl) upd_same⟩
end
/-! heaps that grow -/
theorem same_at {H H' : Hp} {b : Addr} {o : HO} (s : Same H H') (h : H b = some o) : H' b = some o := s b o h
theorem same_tup {K : PySem.W.Frag} {H H' : Hp} {a : Addr} {xs : List V} (e : Same H H') (h : SqT K H a xs) : SqT K H' a xs := by
  rcases h with (h | ⟨o, h⟩) | h
  · exact .inl (.inl (e _ _ h))
  · exact .inl (.inr ⟨o, e _ _ h⟩)
  · exact .inr h
theorem p2pos (k : Nat) : (0 : Int) < 2 ^ k := Int.pow_pos (by decide)
/-! loops -/
section
variable {K : PySem.W.Frag} {D : Ends} {σ : L2.St} {H : Hp} {Q : VK} {ta te tl : TE} {t : TS} {g : TG} {s : TA} {wi : TI} {tt : TT} {vs : List Nat}
def ForB (J : It) (g : TG) (t : TS) (D : Ends) (σ : L2.St) (H : Hp) : Prop := ∃ W : Nat → Nat → L2.St → Hp → Prop, (∃ m, W 0 m σ H) ∧ ∀ i m σ H, W i m σ H →
  (J.stop i H ∧ D.nx σ H) ∨ (J.go i H ∧ ∃ N : L2.St → Hp → Prop, (∀ σ' H', N σ' H' → ∃ m', m' < m ∧ W (i + 1) m' σ' H') ∧ ∀ x H', J.yld i H x H' → g x σ H' fun σ2 H2 => t { D with nx := N, ct := N, bk := D.nx } σ2 H2)
theorem w_for (h : wi σ H fun J H1 => ForB J g t D σ H1) : tFor wi g t D σ H := h
def LcB (J : It) (g : TG) (tt : TT) (te : TE) (vs : List Nat) (σ : L2.St) (Q : VK) (H1 : Hp) : Prop := ∀ D, H1 D = none → ∃ W : Nat → Nat → Hp → Prop, (∃ m, W 0 m (upd H1 D (.lst []))) ∧ ∀ i m H, W i m H →
  (J.stop i H ∧ Q (.ref D) H) ∨ (J.go i H ∧ ∃ Nx : Hp → Prop, (∀ H', Nx H' → ∃ m', m' < m ∧ W (i + 1) m' H') ∧ ∀ x H', J.yld i H x H' → g x (wipe σ vs) H' fun σ2 H2 => wipe σ2 vs = wipe σ vs ∧ tt σ2 H2 fun b H3 =>
    if b = true then te σ2 H3 fun y H4 => ∃ acc, H4 D = some (.lst acc) ∧ acc.length < sizeLine ∧ Nx (upd H4 D (.lst (acc ++ [y]))) else Nx H3)
theorem w_lc (h : wi σ H fun J H1 => LcB J g tt te vs σ Q H1) : tLc wi g tt te vs σ H Q := h
def IL1 (K : PySem.W.Frag) (R : It → Hp → Prop) (x : V) (H1 : Hp) : Prop := ∃ a, x = .ref a ∧ (∃ xs, SqL K H1 a xs) ∧ R (Itl K a) H1
def IT1 (K : PySem.W.Frag) (R : It → Hp → Prop) (x : V) (H1 : Hp) : Prop := ∃ a, x = .ref a ∧ (∃ xs, SqT K H1 a xs) ∧ R (Itt K a) H1
def IR1 (R : It → Hp → Prop) (vs : List V) (H1 : Hp) : Prop := ∃ j : Int, vs = [.int j] ∧ -(2 ^ 62) ≤ j ∧ j < 2 ^ 62 ∧ R (Itr 0 j.toNat) H1
def IR2 (R : It → Hp → Prop) (vs : List V) (H1 : Hp) : Prop := ∃ i j : Int, vs = [.int i, .int j] ∧ (-(2 ^ 62) ≤ i ∧ i < 2 ^ 62 ∧ -(2 ^ 62) ≤ j ∧ j < 2 ^ 62) ∧ R (Itr i (j - i).toNat) H1
variable {R : It → Hp → Prop}
theorem w_iL (h : tl σ H fun x H1 => IL1 K R x H1) : iList K tl σ H R := h
theorem w_iT (h : tl σ H fun x H1 => IT1 K R x H1) : iTup K tl σ H R := h
theorem w_iR1 (h : s σ H fun x H1 => IR1 R x H1) : iRng1 s σ H R := h
theorem w_iR2 (h : s σ H fun x H1 => IR2 R x H1) : iRng2 s σ H R := h
theorem w_IL1 {a : Addr} {xs : List V} (h : SqL K H a xs) (q : R (Itl K a) H) : IL1 K R (.ref a) H := ⟨a, rfl, ⟨xs, h⟩, q⟩
theorem w_IT1 {a : Addr} {xs : List V} (h : SqT K H a xs) (q : R (Itt K a) H) : IT1 K R (.ref a) H := ⟨a, rfl, ⟨xs, h⟩, q⟩
theorem w_IR1 {j : Int} (h : -1000000 ≤ j ∧ j ≤ 1000000) (q : R (Itr 0 j.toNat) H) : IR1 R [.int j] H := ⟨j, rfl, by omega, by omega, q⟩
theorem w_IR2 {i j : Int} (h : -1000000 ≤ i ∧ i ≤ 1000000 ∧ -1000000 ≤ j ∧ j ≤ 1000000) (q : R (Itr i (j - i).toNat) H) : IR2 R [.int i, .int j] H := ⟨i, j, rfl, by omega, q⟩
/-- for x in a list that stands: Pv by the turn, the slots, the heap -/
theorem for_l {a : Addr} {j : Nat} (xs : List V) (Pv : Nat → L2.St → Hp → Prop) (h0 : Pv 0 σ H) (hl : ∀ i σ H, i ≤ xs.length → Pv i σ H → SqL K H a xs)
    (hs : ∀ i x σ' H', xs[i]? = some x → Pv i σ' H' → t { D with nx := Pv (i + 1), ct := Pv (i + 1), bk := D.nx } (σ'.set j (some x)) H') (hd : ∀ σ' H', Pv xs.length σ' H' → D.nx σ' H') : ForB (Itl K a) (gName j) t D σ H :=
  for_list Pv h0 hl hs hd
theorem for_t {a : Addr} {j : Nat} (xs : List V) (Pv : Nat → L2.St → Hp → Prop) (h0 : Pv 0 σ H) (hl : ∀ i σ H, i ≤ xs.length → Pv i σ H → SqT K H a xs)
    (hs : ∀ i x σ' H', xs[i]? = some x → Pv i σ' H' → t { D with nx := Pv (i + 1), ct := Pv (i + 1), bk := D.nx } (σ'.set j (some x)) H') (hd : ∀ σ' H', Pv xs.length σ' H' → D.nx σ' H') : ForB (Itt K a) (gName j) t D σ H :=
  for_tup Pv h0 hl hs hd
theorem for_r {n j : Nat} (Pv : Nat → L2.St → Hp → Prop) (h0 : Pv 0 σ H)
    (hs : ∀ (i : Nat) σ' H', i < n → Pv i σ' H' → t { D with nx := Pv (i + 1), ct := Pv (i + 1), bk := D.nx } (σ'.set j (some (.int (i : Int)))) H') (hd : ∀ σ' H', Pv n σ' H' → D.nx σ' H') : ForB (Itr 0 n) (gName j) t D σ H :=
  for_range Pv h0 (fun i σ' H' hi p => by
    show t _ (σ'.set j (some (.int (0 + (i : Int))))) H'
    rw [Int.zero_add]
    exact hs i σ' H' hi p) hd
theorem for_r2 {lo : Int} {n j : Nat} (Pv : Nat → L2.St → Hp → Prop) (h0 : Pv 0 σ H)
    (hs : ∀ (i : Nat) σ' H', i < n → Pv i σ' H' → t { D with nx := Pv (i + 1), ct := Pv (i + 1), bk := D.nx } (σ'.set j (some (.int (lo + (i : Int))))) H') (hd : ∀ σ' H', Pv n σ' H' → D.nx σ' H') : ForB (Itr lo n) (gName j) t D σ H :=
  for_range Pv h0 hs hd
/-- a comprehension over range(n) whose elements leave the heap -/
theorem lc_r {n j : Nat} (f : Nat → V) (hn : n < 1000000) (hw : ∀ x, wipe ((wipe σ vs).set j (some x)) vs = wipe σ vs)
    (he : ∀ (i : Nat) H' (Q' : VK), i < n → Q' (f i) H' → te ((wipe σ vs).set j (some (.int (i : Int)))) H' Q')
    (q : ∀ p H', H p = none → Same H H' → H' p = some (.lst ((List.range n).map f)) → Q (.ref p) H') : LcB (Itr 0 n) (gName j) tYes te vs σ Q H := fun p hp =>
  lc_range (lo := 0) (n := n) (fun i H' => H' = upd H p (.lst ((List.range i).map f))) rfl (fun i H' hi e => by
    subst e
    have e0 : V.int (0 + (i : Int)) = V.int (i : Int) := by rw [Int.zero_add]
    show wipe ((wipe σ vs).set j (some (V.int (0 + (i : Int))))) vs = wipe σ vs ∧ te ((wipe σ vs).set j (some (V.int (0 + (i : Int))))) (upd H p (.lst ((List.range i).map f)))
      (fun y H4 => ∃ acc, H4 p = some (.lst acc) ∧ acc.length < sizeLine ∧ upd H4 p (.lst (acc ++ [y])) = upd H p (.lst ((List.range (i + 1)).map f)))
    rw [e0]
    refine ⟨hw _, he i _ _ hi ⟨_, upd_same, ?_, ?_⟩⟩
    · rw [List.length_map, List.length_range]
      exact Nat.lt_of_lt_of_le (show i < 16777216 by omega) (by rw [sizeLine_eq]; exact Nat.le_refl _)
    · rw [upd_upd, List.range_succ, List.map_append]
      rfl) fun H' e => by
    subst e
    exact q p _ hp (same_upd hp) upd_same
end
/-! lists of ints -/
theorem get_map {α : Type} {xs : List α} {f : α → V} {i : Nat} {x : V} (h : (xs.map f)[i]? = some x) : ∃ y, xs[i]? = some y ∧ x = f y := by
  rw [List.getElem?_map] at h
  cases e : xs[i]? with
  | none => rw [e] at h; cases h
  | some y => rw [e] at h; exact ⟨y, rfl, (Option.some.inj h).symm⟩
theorem cut_upto (xs : List V) (n : Nat) : cutV xs none (some (n : Int)) = xs.take n := by
  unfold cutV
  rw [HT.sIx_none, HT.sIx_nat, List.drop_zero, Nat.sub_zero]
  rcases Nat.le_total n xs.length with h | h
  · rw [Nat.min_eq_left h]
  · rw [Nat.min_eq_right h, List.take_of_length_le (Nat.le_refl _), List.take_of_length_le h]
theorem cut_from (xs : List V) (n : Nat) (h : n ≤ xs.length) : cutV xs (some (n : Int)) none = xs.drop n := by
  unfold cutV
  rw [HT.sIx_none, HT.sIx_nat, Nat.min_eq_left h]
  exact List.take_of_length_le (by rw [List.length_drop]; exact Nat.le_refl _)
/-- the cells of a law: at most 63 of the script, and nought behind -/
def cells (ns : List Int) : List Int := ns.take 63 ++ [0]
theorem cells_eq (ns : List Int) : cutV (ns.map V.int) none (some (63 : Int)) ++ [V.int 0] = (cells ns).map V.int := by
  rw [show (63 : Int) = ((63 : Nat) : Int) from rfl, cut_upto, cells, List.map_append, List.map_take]
  rfl
theorem cells_len (ns : List Int) : (cells ns).length ≤ 64 ∧ 1 ≤ (cells ns).length := by
  unfold cells
  rw [List.length_append, List.length_take, List.length_singleton]
  omega
theorem cutV_le (xs : List V) (lo hi : Option Int) {n : Nat} (h : xs.length ≤ n) : (cutV xs lo hi).length ≤ n := Nat.le_trans (cutV_length xs lo hi) h
/-! == of data -/
theorem w_neD {K : PySem.W.Frag} {H : Hp} {Q : VK} {x y : V} {d e : PyData} (hx : Dp K H x d) (hy : Dp K H y e) (sd : SeqAt.shaped d = true) (se : SeqAt.shaped e = true) (q : Q (.bl (!PyData.eqv d e)) H) : rNeD K x y H Q := ⟨d, e, hx, hy, sd, se, q⟩
theorem w_eqD {K : PySem.W.Frag} {H : Hp} {Q : VK} {x y : V} {d e : PyData} (hx : Dp K H x d) (hy : Dp K H y e) (sd : SeqAt.shaped d = true) (se : SeqAt.shaped e = true) (q : Q (.bl (PyData.eqv d e)) H) : rEqD K x y H Q := ⟨d, e, hx, hy, sd, se, q⟩
theorem w_neSame {K : PySem.W.Frag} {H : Hp} {Q : VK} {x y : V} (d : PyData) (hx : Dp K H x d) (hy : Dp K H y d) (sd : SeqAt.shaped d = true) (q : Q (.bl false) H) : rNeD K x y H Q :=
  ⟨d, d, hx, hy, sd, sd, by rw [SeqAt.eqv_refl d (SeqAt.canLay_of_shaped sd)]; exact q⟩
theorem w_eqSame {K : PySem.W.Frag} {H : Hp} {Q : VK} {x y : V} (d : PyData) (hx : Dp K H x d) (hy : Dp K H y d) (sd : SeqAt.shaped d = true) (q : Q (.bl true) H) : rEqD K x y H Q :=
  ⟨d, d, hx, hy, sd, sd, by rw [SeqAt.eqv_refl d (SeqAt.canLay_of_shaped sd)]; exact q⟩
theorem dp_ints {K : PySem.W.Frag} {H : Hp} : ∀ ns : List Int, DpAll K H (ns.map V.int) (ns.map PyData.int)
  | [] => .nil
  | n :: r => .cons (.int n) (dp_ints r)
theorem lay_ints : ∀ ns : List Int, PyData.canLayAll0 (ns.map PyData.int) = true
  | [] => rfl
  | n :: r => by
    show (PyData.canLay0 (.int n) && PyData.canLayAll0 (r.map PyData.int)) = true
    rw [lay_ints r]
    rfl
/-! lists that change -/
section
variable {K : PySem.W.Frag} {D : Ends} {σ : L2.St} {H H1 : Hp} {Q : VK} {to : TE} {t : TA} {b : TS}
/-- what H does not know may change behind it -/
theorem same_mut {o : Addr} {u : HO} (s : Same H H1) (n : H o = none) : Same H (upd H1 o u) := fun c x e => by
  rw [upd_ne (ne_of_none e n)]
  exact s c x e
def BM1 (K : PySem.W.Frag) (T : String) (f : V → List V → Hp → VK → Prop) (t : TA) (σ : L2.St) (Q : VK) (x : V) (H1 : Hp) : Prop := tyV K T x H1 ∧ t σ H1 fun xs H2 => f x xs H2 Q
def BM0 (K : PySem.W.Frag) (T : String) (f : V → List V → Hp → VK → Prop) (Q : VK) (x : V) (H1 : Hp) : Prop := tyV K T x H1 ∧ f x [] H1 Q
theorem w_bm {T : String} {f : V → List V → Hp → VK → Prop} (h : to σ H fun x H1 => BM1 K T f t σ Q x H1) : tBM K T f to t σ H Q := h
theorem w_bm0 {T : String} {f : V → List V → Hp → VK → Prop} (h : to σ H fun x H1 => BM0 K T f Q x H1) : tBM0 K T f to σ H Q := h
theorem w_BML {f : V → List V → Hp → VK → Prop} {p : Addr} {xs : List V} (e : H p = some (.lst xs)) (q : t σ H fun vs H2 => f (.ref p) vs H2 Q) : BM1 K "list" f t σ Q (.ref p) H := ⟨.inl ⟨rfl, xs, SqL.of e⟩, q⟩
theorem w_BM0L {f : V → List V → Hp → VK → Prop} {p : Addr} {xs : List V} (e : H p = some (.lst xs)) (q : f (.ref p) [] H Q) : BM0 K "list" f Q (.ref p) H := ⟨.inl ⟨rfl, xs, SqL.of e⟩, q⟩
theorem w_append {p : Addr} {xs : List V} {y : V} (e : H p = some (.lst xs)) (hz : xs.length ≤ 1000000) (q : Q .non (upd H p (.lst (xs ++ [y])))) : rAppend (.ref p) [y] H Q :=
  ⟨p, xs, y, rfl, rfl, e, Nat.lt_of_le_of_lt hz (by rw [sizeLine_eq]; decide), q⟩
/-- for k, x in enumerate(a list that stands) -/
def IE1 (K : PySem.W.Frag) (R : It → Hp → Prop) (vs : List V) (H1 : Hp) : Prop := ∃ a xs, vs = [.ref a] ∧ SqL K H1 a xs ∧ R (Ite K a) H1
theorem w_iE {s : TA} {R : It → Hp → Prop} (h : s σ H fun x H1 => IE1 K R x H1) : iEnum K s σ H R := h
theorem w_IE1 {a : Addr} {xs : List V} {R : It → Hp → Prop} (h : SqL K H a xs) (q : R (Ite K a) H) : IE1 K R [.ref a] H := ⟨a, xs, rfl, h, q⟩
theorem for_e {a : Addr} {j k : Nat} (xs : List V) (Pv : Nat → L2.St → Hp → Prop) (h0 : Pv 0 σ H) (hl : ∀ n σ H, n ≤ xs.length → Pv n σ H → SqL K H a xs)
    (hs : ∀ (n : Nat) x σ' H' H'', xs[n]? = some x → Pv n σ' H' → Same H' H'' → b { D with nx := Pv (n + 1), ct := Pv (n + 1), bk := D.nx } ((σ'.set j (some (.int (n : Int)))).set k (some x)) H'') (hd : ∀ σ' H', Pv xs.length σ' H' → D.nx σ' H') :
    ForB (Ite K a) (gTup K 2 (gCons (gName j) (gCons (gName k) gNil))) b D σ H := by
  refine ⟨fun i m σ H => m = xs.length - i ∧ i ≤ xs.length ∧ Pv i σ H, ⟨xs.length, by simp, Nat.zero_le _, h0⟩, ?_⟩
  rintro i m σ H ⟨rfl, hi, p⟩
  have q := hl i σ H hi p
  by_cases hlt : i < xs.length
  · refine .inr ⟨⟨xs, xs[i], q, by simp [hlt]⟩, Pv (i + 1), fun σ' H' p' => ⟨xs.length - (i + 1), by omega, rfl, hlt, p'⟩, fun x H' y => ?_⟩
    obtain ⟨T, y, rfl, nT, rfl, hy⟩ := y
    refine ⟨T, _, rfl, SqT.of upd_same, rfl, _, _, rfl, _, _, rfl, rfl, ?_⟩
    exact hs i y σ H _ (hy xs q) p (same_upd nT)
  · have e : i = xs.length := by omega
    subst e
    exact .inl ⟨⟨xs, q, Nat.le_refl _⟩, hd σ H p⟩
end
/-- x & 1 -/
def rBit1 : R2 := fun x y H Q => ∃ i : Int, x = .int i ∧ y = .int 1 ∧ Q (.int (i % 2)) H
theorem op_bit1 {X : Cx} : OpR X (binaryOp .BitAnd) rBit1 := by
  intro pins s σ H x y v u Q I rx ry h
  obtain ⟨i, rfl, rfl, q⟩ := h
  have e : Builtin.bitAnd i 1 = i % 2 := PySem.W.kbt_mask i 1
  rw [← e] at q
  exact op_and pins s σ H _ _ v u Q I rx ry ⟨_, _, rfl, rfl, q⟩
theorem w_bit1 {H : Hp} {Q : VK} {i : Int} (q : Q (.int (i % 2)) H) : rBit1 (.int i) (.int 1) H Q := ⟨i, rfl, rfl, q⟩
/-- x >> k, k a place -/
def rShrN : R2 := fun x y H Q => ∃ (i : Int) (k : Nat), x = .int i ∧ y = .int (k : Int) ∧ Q (.int (i / 2 ^ k)) H
theorem op_shrK {X : Cx} : OpR X (binaryOp .RShift) rShrN := op_shrN
theorem w_shrN {H : Hp} {Q : VK} {i : Int} {k : Nat} (q : Q (.int (i / 2 ^ k)) H) : rShrN (.int i) (.int (k : Int)) H Q := ⟨i, k, rfl, rfl, q⟩
/-- x << k, x small, k a place -/
def rShlN : R2 := fun x y H Q => ∃ (i : Int) (k : Nat), x = .int i ∧ y = .int (k : Int) ∧ (-100 ≤ i ∧ i ≤ 100 ∧ k ≤ 1000000) ∧ Q (.int (i * 2 ^ k)) H
theorem op_shlK {X : Cx} : OpR X (binaryOp .LShift) rShlN := by
  intro pins s σ H x y v u Q I rx ry h
  obtain ⟨i, k, rfl, rfl, ⟨h1, h2, h3⟩, q⟩ := h
  refine op_shl pins s σ H _ _ v u Q I rx ry ⟨_, _, rfl, rfl, ⟨by omega, by omega, Nat.lt_of_le_of_lt (show i.natAbs ≤ 100 by omega) (by decide)⟩, ?_⟩
  show Q (.int (i * 2 ^ (k : Int).toNat)) H
  rw [Int.toNat_natCast]
  exact q
theorem w_shlN {H : Hp} {Q : VK} {i : Int} {k : Nat} (h : -100 ≤ i ∧ i ≤ 100 ∧ k ≤ 1000000) (q : Q (.int (i * 2 ^ k)) H) : rShlN (.int i) (.int (k : Int)) H Q := ⟨i, k, rfl, rfl, h, q⟩
theorem bits_of_int {i : Int} {n : Nat} (h : i.natAbs < 2 ^ n) : Builtin.Int.intBits i ≤ n + 1 := by
  have b : Builtin.Int.intBits i ≤ i.natAbs.log2 + 1 := by
    unfold Builtin.Int.intBits
    split <;> omega
  rcases Nat.eq_zero_or_pos n with h0 | h0
  · subst h0
    have e : i.natAbs = 0 := by omega
    rw [e] at b
    exact b
  · have := PySem.Flt.log2_lt_of h0 h
    omega
theorem mul_ok {i j : Int} {n : Nat} (hi : Builtin.Int.intBits i ≤ 1048576) (hj : j.natAbs < 2 ^ n) (hn : n ≤ 1000000) : IntMulOk i j :=
  CMulX.ok (show (Builtin.Int.intBits i : Int) + (Builtin.Int.intBits j : Int) ≤ 134217728 by have := bits_of_int hj; omega)
theorem mul_sm {i j : Int} (h : -1000000000000 ≤ i ∧ i ≤ 1000000000000) : IntMulOk i j := .of_left (intBits_le_64 (by omega) (by omega))
theorem mul_sm2 {i j : Int} (h : -1000000000000 ≤ j ∧ j ≤ 1000000000000) : IntMulOk i j := .of_right (intBits_le_64 (by omega) (by omega))
theorem depth_ints : ∀ ns : List Int, PyData.depthAll (ns.map PyData.int) ≤ 1
  | [] => Nat.zero_le 1
  | n :: r => by
    have := depth_ints r
    show max (PyData.depth (.int n)) (PyData.depthAll (r.map PyData.int)) ≤ 1
    exact Nat.max_le.mpr ⟨Nat.zero_le 1, this⟩
theorem shaped_ints (ns : List Int) : SeqAt.shaped (.list (ns.map PyData.int)) = true := by
  unfold SeqAt.shaped
  rw [show PyData.canLay0 (.list (ns.map PyData.int)) = true from lay_ints ns, Bool.true_and]
  have h := depth_ints ns
  exact decide_eq_true (show PyData.depthAll (ns.map PyData.int) + 1 ≤ 64 by omega)
/-! targets of several names -/
section
variable {K : PySem.W.Frag} {σ : L2.St} {H : Hp} {t : TG} {u tt : TGs} {QS : L2.St → Hp → Prop}
theorem w_gTup {n : Nat} {a : Addr} {xs : List V} (h : SqT K H a xs) (e : xs.length = n) (q : tt xs σ H QS) : gTup K n tt (.ref a) σ H QS := ⟨a, xs, rfl, h, e, q⟩
theorem w_gCons {v : V} {r : List V} (q : t v σ H fun σ' H' => u r σ' H' QS) : gCons t u (v :: r) σ H QS := ⟨v, r, rfl, q⟩
theorem w_gNil (q : QS σ H) : gNil [] σ H QS := ⟨rfl, q⟩
theorem w_gName {v : V} {i : Nat} (q : QS (σ.set i (some v)) H) : gName i v σ H QS := q
end
/-- how many bits a number has -/
theorem ib_le {x : Int} (h : 0 ≤ x) (n : Nat) : Builtin.Int.intBits x ≤ n ↔ x < 2 ^ n := by
  obtain ⟨k, rfl⟩ := Int.eq_ofNat_of_zero_le h
  have e : (k : Int) < 2 ^ n ↔ k < 2 ^ n := by
    rw [show ((2 : Int) ^ n) = ((2 ^ n : Nat) : Int) by rw [Int.natCast_pow]; rfl]
    exact Int.ofNat_lt
  rw [e]
  by_cases h0 : k = 0
  · subst h0
    exact ⟨fun _ => Nat.pos_of_ne_zero (by intro z; exact absurd z (Nat.ne_of_gt (Nat.pow_pos (by decide)))), fun _ => Nat.zero_le _⟩
  · have hb : Builtin.Int.intBits (k : Int) = k.log2 + 1 := by
      unfold Builtin.Int.intBits
      rw [if_neg (by simpa using h0)]
      rfl
    rw [hb]
    exact (Nat.log2_lt h0)
theorem mul_cc {i j : Int} (hi : Builtin.Int.intBits i ≤ 1048576) (hj : Builtin.Int.intBits j ≤ 1048576) : IntMulOk i j :=
  CMulX.ok (show (Builtin.Int.intBits i : Int) + (Builtin.Int.intBits j : Int) ≤ 134217728 by omega)
theorem abs_pow (n : Nat) : ((1 : Int) * 2 ^ n).natAbs = 2 ^ n := by
  rw [Int.one_mul, Int.natAbs_pow]
  rfl
/-! cells of a script by their places -/
theorem get_int {ns : List Int} {i : Nat} (hi : i < ns.length) : atI (ns.map V.int) (i : Int) = some (.int ns[i]) := atI_nat (by rw [List.getElem?_map, List.getElem?_eq_getElem hi]; rfl)
theorem atI_lastD {bs : List Int} (h : bs ≠ []) : atI (bs.map V.int) (-1) = some (.int (bs.getLastD 0)) := by
  obtain ⟨r, x, rfl⟩ : ∃ r x, bs = r ++ [x] := ⟨bs.dropLast, bs.getLast h, (List.dropLast_concat_getLast h).symm⟩
  rw [List.map_append]
  have e : (r ++ [x]).getLastD 0 = x := by simp
  rw [e]
  exact atI_last _ _
theorem atI_prev {xs : List Int} {k : Nat} (hk : k < xs.length) : ∃ c, atI (xs.map V.int) ((k : Int) - 1) = some (.int c) ∧ c ∈ xs := by
  cases k with
  | zero =>
    have hne : xs ≠ [] := fun z => by
      rw [z] at hk
      exact absurd hk (by decide)
    refine ⟨xs.getLastD 0, atI_lastD hne, ?_⟩
    obtain ⟨r, x, rfl⟩ : ∃ r x, xs = r ++ [x] := ⟨xs.dropLast, xs.getLast hne, (List.dropLast_concat_getLast hne).symm⟩
    simp
  | succ j =>
    have hj : j < xs.length := by omega
    refine ⟨xs[j], ?_, List.getElem_mem hj⟩
    have e : ((j + 1 : Nat) : Int) - 1 = (j : Int) := by omega
    rw [e]
    exact get_int hj
theorem cells_bits {ns : List Int} (h : ∀ z ∈ ns, Builtin.Int.intBits z ≤ 1048576) : ∀ z ∈ cells ns, Builtin.Int.intBits z ≤ 1048576 := by
  intro z hz
  rcases List.mem_append.mp hz with q | q
  · exact h z (List.mem_of_mem_take q)
  · have e : z = 0 := List.mem_singleton.mp q
    rw [e]
    decide
end Dpr

namespace Dpr
open PySem PySem.Spec PyProof.Rows L2
def topS (i : Nat) : Stmt := PySem.Challenge.pw_dotpress_k03_the_room_of_a_span.main.body.getD i (.Pass ⟨0, 0, 0, 0⟩)
abbrev s_room_of : Stmt := topS 1
theorem sc_room_of : FnScope ["span", "low", "high"] ["span"] (defScope s_room_of) := ⟨rfl, rfl, rfl, by decide +kernel, rfl, by decide +kernel, by decide +kernel⟩
abbrev s_law_mixed : Stmt := topS 3
theorem sc_law_mixed : FnScope ["_law_cell", "_law_k", "_law_number_here"] ["_law_cell", "_law_k"] (defScope s_law_mixed) := ⟨rfl, rfl, rfl, by decide +kernel, rfl, by decide +kernel, by decide +kernel⟩
abbrev s_law_whole : Stmt := topS 4
theorem sc_law_whole : FnScope ["_law_found"] ["_law_found"] (defScope s_law_whole) := ⟨rfl, rfl, rfl, by decide +kernel, rfl, by decide +kernel, by decide +kernel⟩
abbrev s_law_power : Stmt := topS 5
theorem sc_law_power : FnScope ["_law_many"] ["_law_many"] (defScope s_law_power) := ⟨rfl, rfl, rfl, by decide +kernel, rfl, by decide +kernel, by decide +kernel⟩
abbrev s_law_fits : Stmt := topS 6
theorem sc_law_fits : FnScope ["_law_low", "_law_high", "_law_many", "_law_below", "_law_half"] ["_law_low", "_law_high", "_law_many", "_law_below"] (defScope s_law_fits) := ⟨rfl, rfl, rfl, by decide +kernel, rfl, by decide +kernel, by decide +kernel⟩
abbrev s_law_number : Stmt := topS 7
theorem sc_law_number : FnScope ["_law_cell", "_law_k", "_law_mixed_here", "_law_size"] ["_law_cell", "_law_k"] (defScope s_law_number) := ⟨rfl, rfl, rfl, by decide +kernel, rfl, by decide +kernel, by decide +kernel⟩
abbrev s_law : Stmt := topS 8
theorem sc_law : FnScope ["_law_script", "_law_cells", "_law_k", "_law_one", "_law_other", "_law_low", "_law_high", "_law_found"] ["_law_script"] (defScope s_law) := ⟨rfl, rfl, rfl, by decide +kernel, rfl, by decide +kernel, by decide +kernel⟩

structure Top (K : PySem.W.Frag) (mg : Str → Option Value) where
  a_room_of : Addr
  d_room_of : FuncData
  f_room_of : Fun K "room_of" "room_of" s_room_of a_room_of d_room_of
  b_room_of : Binds K d_room_of ["span"] []
  g_room_of : mg "room_of" = some (.ref a_room_of)
  a_law_mixed : Addr
  d_law_mixed : FuncData
  f_law_mixed : Fun K "_law_mixed" "_law_mixed" s_law_mixed a_law_mixed d_law_mixed
  b_law_mixed : Binds K d_law_mixed ["_law_cell", "_law_k"] []
  g_law_mixed : mg "_law_mixed" = some (.ref a_law_mixed)
  a_law_whole : Addr
  d_law_whole : FuncData
  f_law_whole : Fun K "_law_whole" "_law_whole" s_law_whole a_law_whole d_law_whole
  b_law_whole : Binds K d_law_whole ["_law_found"] []
  g_law_whole : mg "_law_whole" = some (.ref a_law_whole)
  a_law_power : Addr
  d_law_power : FuncData
  f_law_power : Fun K "_law_power" "_law_power" s_law_power a_law_power d_law_power
  b_law_power : Binds K d_law_power ["_law_many"] []
  g_law_power : mg "_law_power" = some (.ref a_law_power)
  a_law_fits : Addr
  d_law_fits : FuncData
  f_law_fits : Fun K "_law_fits" "_law_fits" s_law_fits a_law_fits d_law_fits
  b_law_fits : Binds K d_law_fits ["_law_low", "_law_high", "_law_many", "_law_below"] []
  g_law_fits : mg "_law_fits" = some (.ref a_law_fits)
  a_law_number : Addr
  d_law_number : FuncData
  f_law_number : Fun K "_law_number" "_law_number" s_law_number a_law_number d_law_number
  b_law_number : Binds K d_law_number ["_law_cell", "_law_k"] []
  g_law_number : mg "_law_number" = some (.ref a_law_number)
  a_law : Addr
  d_law : FuncData
  f_law : Fun K "law" "law" s_law a_law d_law
  b_law : Binds K d_law ["_law_script"] []
  g_law : mg "law" = some (.ref a_law)
  z_bool : mg "bool" = none
  z_int : mg "int" = none
  z_isinstance : mg "isinstance" = none
  z_len : mg "len" = none
  z_max : mg "max" = none
  z_min : mg "min" = none
  z_range : mg "range" = none
  z_tuple : mg "tuple" = none

section
variable {P : Program} {w : World} {K : PySem.W.Frag} {mg : Str → Option Value} {base : Heap}


/-! the walk: one step a construct -/
open PySem PySem.Spec PyProof.Rows L2 Dpr
local macro_rules | `(tactic| walk_at "sq") => `(tactic| first
  | assumption
  | exact SqL.of (by assumption)
  | exact SqL.of upd_same
  | exact SqT.of (by assumption)
  | (apply Same.seq; assumption; walk_at "sq")
  | (apply same_tup; assumption; walk_at "sq"))
local macro_rules | `(tactic| walk_at "hp") => `(tactic| first
  | assumption
  | exact upd_same
  | (apply same_at; assumption; walk_at "hp"))
local macro_rules | `(tactic| walk_at "sz") => `(tactic| first
  | omega
  | (simp only [List.length_map, List.length_append, List.length_cons, List.length_nil, List.length_range, List.length_replicate, List.length_take]; omega))
local macro_rules | `(tactic| walk_at "w1") => `(tactic| first
  | with_reducible refine w_seq ?_
  | with_reducible refine w_asg ?_
  | ((with_reducible apply w_var); rfl)
  | with_reducible refine w_c ?_
  | with_reducible refine w_op ?_
  | with_reducible refine w_un ?_
  | with_reducible refine w_I0 ?_
  | with_reducible refine w_U ?_
  | with_reducible refine w_bl ?_
  | with_reducible refine w_test ?_
  | with_reducible refine w_tB ?_
  | ((with_reducible refine w_eq ?_ ?_); rfl)
  | ((with_reducible refine w_ne ?_ ?_); rfl)
  | with_reducible refine w_if ?_
  | with_reducible refine w_cons ?_
  | with_reducible refine w_nil ?_
  | with_reducible refine w_itT ?_
  | with_reducible refine w_itF ?_
  | ((with_reducible refine w_itC ?_ ?_); rfl)
  | ((with_reducible refine w_itD ?_ ?_); rfl)
  | with_reducible refine w_asgG ?_
  | with_reducible refine w_drop ?_
  | with_reducible refine w_ret ?_
  | with_reducible refine w_retN ?_
  | with_reducible refine w_next ?_
  | with_reducible refine w_cont ?_
  | with_reducible refine w_brk ?_
  | ((with_reducible apply w_aug); rfl)
  | with_reducible refine w_ipI ?_
  | with_reducible refine w_chain ?_
  | with_reducible refine w_and ?_
  | with_reducible refine w_or ?_
  | with_reducible refine w_not ?_
  | with_reducible refine w_andV ?_
  | with_reducible refine w_orV ?_
  | with_reducible refine w_notV ?_
  | with_reducible refine w_ifx ?_
  | with_reducible refine w_call ?_
  | with_reducible refine w_cb ?_
  | with_reducible refine w_for ?_
  | with_reducible refine w_lc ?_
  | with_reducible refine w_bm ?_
  | with_reducible refine w_bm0 ?_
  | ((with_reducible apply w_BML); (walk_at "hp"))
  | ((with_reducible apply w_BM0L); (walk_at "hp"))
  | ((with_reducible apply w_append); (walk_at "hp"); (try (walk_at "sz")))
  | ((with_reducible apply w_gTup); (walk_at "sq"); rfl)
  | with_reducible refine w_gCons ?_
  | with_reducible refine w_gNil ?_
  | with_reducible refine w_gName ?_
  | with_reducible refine w_iE ?_
  | ((with_reducible apply w_IE1); (walk_at "sq"))
  | with_reducible refine w_bit1 ?_
  | with_reducible refine w_shrN ?_
  | ((with_reducible refine w_shlN ?_ ?_); omega)
  | with_reducible refine w_iL ?_
  | with_reducible refine w_iT ?_
  | with_reducible refine w_iR1 ?_
  | with_reducible refine w_iR2 ?_
  | ((with_reducible apply w_IL1); (walk_at "sq"))
  | ((with_reducible apply w_IT1); (walk_at "sq"))
  | ((with_reducible refine w_IR1 ?_ ?_); (walk_at "sz"))
  | ((with_reducible refine w_IR2 ?_ ?_); (walk_at "sz"))
  | ((with_reducible apply w_sl); (walk_at "sq"); intro _ _ _ _ _)
  | with_reducible refine w_tsl ?_
  | with_reducible refine w_tnp ?_
  | with_reducible refine w_tpt ?_
  | with_reducible refine w_pt ?_
  | ((with_reducible apply w_cat); (walk_at "hp"); (walk_at "hp"); (try (walk_at "sz")))
  | ((with_reducible apply w_listL); (walk_at "sq"); intro _ _ _ _ _)
  | ((with_reducible apply w_listT); (walk_at "sq"); intro _ _ _ _ _)
  | with_reducible refine w_tbits ?_
  | with_reducible refine w_bits ?_
  | with_reducible refine w_tup ?_
  | with_reducible refine w_lst ?_
  | ((with_reducible refine w_alT ?_ ?_); (exact sz_le rfl); intro _ _ _ _ _)
  | ((with_reducible refine w_alL ?_ ?_); (exact sz_le rfl); intro _ _ _ _ _)
  | with_reducible refine w_abs ?_
  | with_reducible refine w_max2 ?_
  | with_reducible refine w_min2 ?_
  | ((with_reducible refine w_I ?_ ?_); (first | exact ⟨by decide, by decide⟩ | (show (_ : Int) < _; decide) | exact p2pos _ | exact ⟨by omega, by omega, by decide⟩ | (show (_ : Int) < _; omega) | (show (_ : Int) ≤ _; omega) | exact .of_left (by decide) | exact .of_right (by decide) | exact mul_sm (by omega) | exact mul_sm2 (by omega) | exact mul_cc (by assumption) (by assumption) | exact mul_ok (n := 250) (by assumption) (by decide) (by decide)))
  | ((with_reducible apply w_ixL); (walk_at "sq"); rfl)
  | ((with_reducible apply w_ixT); (walk_at "sq"); rfl)
  | ((with_reducible apply w_lenL); (walk_at "sq"))
  | ((with_reducible apply w_lenT); (walk_at "sq"))
  | (with_reducible refine w_isi (TyX.base (TyOf.int _)) (kit_ii _) ?_)
  | (with_reducible refine w_isi (TyX.base (TyOf.int _)) (kit_ib _) ?_)
  | (with_reducible refine w_isi (TyX.base (TyOf.bl _)) (kit_bi _) ?_)
  | (with_reducible refine w_isi (TyX.base (TyOf.bl _)) (kit_bb _) ?_)
  | (with_reducible refine w_isi (TyX.base (TyOf.str _)) (kit_ss _) ?_)
  | ((with_reducible apply w_isiT); (walk_at "hp"))
  | ((with_reducible apply w_isiL); (walk_at "hp")))
local macro_rules | `(tactic| walk_at "split") => `(tactic| first
  | ((with_reducible refine w_itI ?_ ?_) <;> intro _)
  | ((with_reducible refine w_itN ?_ ?_) <;> intro _)
  | ((with_reducible refine w_itn ?_ ?_) <;> intro _)
  | ((with_reducible refine w_itd ?_ ?_) <;> intro _)
  | ((with_reducible refine w_itb ?_ ?_) <;> intro _))
local macro_rules | `(tactic| walk_at "wk") => `(tactic| repeat' (walk_at "w1"))
local macro_rules | `(tactic| walk_at "ws") => `(tactic| repeat' (first | (walk_at "w1") | ((walk_at "split") <;> (try (exfalso; omega)))))

def sp_law_whole (K : PySem.W.Frag) : Sp := fun vs H Q _ => ∃ i : Int, vs = [.int i] ∧ Q (.bl true) H
theorem ok_law_whole (T : Top K mg) : FnOk P w K mg base CX0 1 T.a_law_whole T.d_law_whole ["_law_found"] (sp_law_whole K) := by
  refine T.f_law_whole.ok sc_law_whole (fun vs H Q E h => ?_) (fun cdv A outer s H vs Q E hr h => ?_)
  · obtain ⟨i, rfl, _⟩ := h
    rfl
  obtain ⟨i, rfl, h⟩ := h
  refine ⟨_, (pss_one (ps_ret (pe_and (pe_callB call_isi (by rfl) T.z_isinstance (by decide +kernel) (pa_cons (pv 0) (pa_cons (pe_bltn (v := .ty "int") (by rfl) T.z_int (by decide +kernel) rfl) pa_nil))) (pe_one (pe_not (pe_callB call_isi (by rfl) T.z_isinstance (by decide +kernel) (pa_cons (pv 0) (pa_cons (pe_bltn (v := .ty "bool") (by rfl) T.z_bool (by decide +kernel) rfl) pa_nil)))))))), ?_⟩
  try dsimp only [cxOf, Cx.nox, Cx.wish]
  walk_at "wk"
  exact h
theorem use_whole {i : Int} {H : Hp} {Q : VK} {E : XK} (h : Q (.bl true) H) : sp_law_whole K ([.int i] ++ []) H Q E := ⟨i, rfl, h⟩
local macro_rules | `(tactic| walk_at "w1") => `(tactic| with_reducible refine use_whole ?_)

/-! numbers drawn from a cell -/
def mixF (c k : Int) : Int :=
  if 10 ^ Int.toNat 40 ≤ c then (c - 10 ^ Int.toNat 40) / (1 * 2 ^ (100 * (k % 60)).toNat) % (1 * 2 ^ Int.toNat 100)
  else ((c * c + 3 * c + 7919 * k + 1) * 48271 % 2147483629 * ((c * c + 3 * c + 7919 * k + 1) * 48271 % 2147483629) + 7) % 2147483587
theorem mixF_bd (c k : Int) : 0 ≤ mixF c k ∧ mixF c k < 2 ^ 100 := by
  unfold mixF
  have e : (1 : Int) * 2 ^ Int.toNat 100 = 2 ^ 100 := by decide
  split
  · rw [e]
    exact ⟨Int.emod_nonneg _ (by decide), Int.emod_lt_of_pos _ (by decide)⟩
  · have h1 := Int.emod_nonneg ((c * c + 3 * c + 7919 * k + 1) * 48271 % 2147483629 * ((c * c + 3 * c + 7919 * k + 1) * 48271 % 2147483629) + 7) (show (2147483587 : Int) ≠ 0 by decide)
    have h2 := Int.emod_lt_of_pos ((c * c + 3 * c + 7919 * k + 1) * 48271 % 2147483629 * ((c * c + 3 * c + 7919 * k + 1) * 48271 % 2147483629) + 7) (show (0 : Int) < 2147483587 by decide)
    exact ⟨h1, Int.lt_trans h2 (by decide)⟩
def sp_law_mixed (K : PySem.W.Frag) : Sp := fun vs H Q _ => ∃ c k : Int, vs = [.int c, .int k] ∧ Builtin.Int.intBits c ≤ 1048576 ∧ (0 ≤ k ∧ k ≤ 1000000) ∧ Q (.int (mixF c k)) H
theorem ok_law_mixed (T : Top K mg) : FnOk P w K mg base CX0 1 T.a_law_mixed T.d_law_mixed ["_law_cell", "_law_k"] (sp_law_mixed K) := by
  refine T.f_law_mixed.ok sc_law_mixed (fun vs H Q E h => ?_) (fun cdv A outer s H vs Q E hr h => ?_)
  · obtain ⟨c, k, rfl, _⟩ := h
    rfl
  obtain ⟨c, k, rfl, h⟩ := h
  refine ⟨_, (pss_cons (ps_if (pt_cmpR op_ge (pv 0) (pe_op op_pow pe_int pe_int) (nomark _)) (pss_one (ps_ret (pe_op op_mod (pe_op op_fdivW (pe_op op_sub (pv 0) (pe_op op_pow pe_int pe_int)) (pe_op op_shl pe_int (pe_op op_mulI pe_int (pe_op op_mod (pv 1) pe_int)))) (pe_op op_shl pe_int pe_int)))) pss_nil)
      (pss_cons (ps_set (i := 2) sc_law_mixed.nd rfl (.inl rfl) (pe_op op_mod (pe_op op_mulI (pe_op op_add (pe_op op_add (pe_op op_add (pe_op op_mulI (pv 0) (pv 0)) (pe_op op_mulI pe_int (pv 0))) (pe_op op_mulI pe_int (pv 1))) pe_int) pe_int) pe_int))
      (pss_one (ps_ret (pe_op op_mod (pe_op op_add (pe_op op_mulI (pv 2) (pv 2)) pe_int) pe_int))))), ?_⟩
  try dsimp only [cxOf, Cx.nox, Cx.wish]
  obtain ⟨hc, hk, h⟩ := h
  walk_at "ws"
  · rename_i hb
    have hp : (0 : Int) < 1 * 2 ^ (100 * (k % 60)).toNat := by
      rw [Int.one_mul]
      exact p2pos _
    refine w_I (wide_div hp (b := 6001) (by rw [abs_pow]; exact Nat.pow_lt_pow_right (by decide) (by omega)) (by decide) (by decide)) ?_
    walk_at "ws"
    have e : mixF c k = (c - 10 ^ Int.toNat 40) / (1 * 2 ^ (100 * (k % 60)).toNat) % (1 * 2 ^ Int.toNat 100) := by rw [mixF, if_pos hb]
    rw [e] at h
    exact h
  · rename_i hb
    have e : mixF c k = ((c * c + 3 * c + 7919 * k + 1) * 48271 % 2147483629 * ((c * c + 3 * c + 7919 * k + 1) * 48271 % 2147483629) + 7) % 2147483587 := by rw [mixF, if_neg hb]
    rw [e] at h
    exact h
theorem use_mixed {c k : Int} {H : Hp} {Q : VK} {E : XK} (hc : Builtin.Int.intBits c ≤ 1048576) (hk : 0 ≤ k ∧ k ≤ 1000000) (h : ∀ v, mixF c k = v → 0 ≤ v → v < 2 ^ 100 → Q (.int v) H) : sp_law_mixed K ([.int c, .int k] ++ []) H Q E :=
  ⟨c, k, rfl, hc, hk, h _ rfl (mixF_bd c k).1 (mixF_bd c k).2⟩
local macro_rules | `(tactic| walk_at "w1") => `(tactic| ((with_reducible refine use_mixed ?_ ?_ ?_); assumption; omega; intro _ _ _ _))

/-- the room of a span -/
def roomI (lo hi : Int) : Int × Bool :=
  if 0 ≤ lo then (if (Builtin.Int.intBits hi : Int) > 1 then (Builtin.Int.intBits hi : Int) else 1, false)
  else (1 + (if (Builtin.Int.intBits (if hi > 0 then hi else 0) : Int) > Builtin.Int.intBits (-lo - 1) then (Builtin.Int.intBits (if hi > 0 then hi else 0) : Int) else Builtin.Int.intBits (-lo - 1)), true)
def sp_room_of (K : PySem.W.Frag) : Sp := fun vs H Q _ => ∃ (a : Addr) (lo hi : Int), vs = [.ref a] ∧ SqT K H a [.int lo, .int hi] ∧
  ∀ p H', H p = none → Same H H' → H' p = some (.tup [.int (roomI lo hi).1, .bl (roomI lo hi).2]) → Q (.ref p) H'
theorem ok_room_of (T : Top K mg) : FnOk P w K mg base CX0 1 T.a_room_of T.d_room_of ["span"] (sp_room_of K) := by
  refine T.f_room_of.ok sc_room_of (fun vs H Q E h => ?_) (fun cdv A outer s H vs Q E hr h => ?_)
  · obtain ⟨a, lo, hi, rfl, _⟩ := h
    rfl
  obtain ⟨a, lo, hi, rfl, h⟩ := h
  refine ⟨_, (pss_cons (ps_asg (pv 0) (pg_tup (by rfl) (pgs_cons (pg_name (i := 1) sc_room_of.nd rfl (.inl rfl)) (pgs_cons (pg_name (i := 2) sc_room_of.nd rfl (.inl rfl)) pgs_nil))))
      (pss_cons (ps_if (pt_cmpR op_ge (pv 1) pe_int (nomark _)) (pss_one (ps_ret (pe_tup (pa_cons (pe_callB (c_max2 rfl) (by rfl) T.z_max (by decide +kernel) (pa_cons pe_int (pa_cons (pe_bits (pv 2)) pa_nil))) (pa_cons pe_bl pa_nil))))) pss_nil)
      (pss_one (ps_ret (pe_tup (pa_cons (pe_op op_add pe_int (pe_callB (c_max2 rfl) (by rfl) T.z_max (by decide +kernel) (pa_cons (pe_bits (pe_op op_sub (pe_un un_neg (pv 1)) pe_int)) (pa_cons (pe_bits (pe_callB (c_max2 rfl) (by rfl) T.z_max (by decide +kernel) (pa_cons pe_int (pa_cons (pv 2) pa_nil)))) pa_nil)))) (pa_cons pe_bl pa_nil))))))), ?_⟩
  try dsimp only [cxOf, Cx.nox, Cx.wish]
  obtain ⟨hS, h⟩ := h
  walk_at "ws"
  · rename_i hz p H1 n1 s1 e1
    refine h p H1 n1 s1 ?_
    rw [e1, roomI, if_pos hz]
  · rename_i hz p H1 n1 s1 e1
    refine h p H1 n1 s1 ?_
    rw [e1, roomI, if_neg hz]

def sp_law_power (K : PySem.W.Frag) : Sp := fun vs H Q _ => ∃ k : Int, vs = [.int k] ∧ (0 ≤ k ∧ k ≤ 1000000) ∧ Q (.int (2 ^ k.toNat)) H
theorem ok_law_power (T : Top K mg) : FnOk P w K mg base CX0 1 T.a_law_power T.d_law_power ["_law_many"] (sp_law_power K) := by
  refine T.f_law_power.ok sc_law_power (fun vs H Q E h => ?_) (fun cdv A outer s H vs Q E hr h => ?_)
  · obtain ⟨k, rfl, _⟩ := h
    rfl
  obtain ⟨k, rfl, h⟩ := h
  refine ⟨_, (pss_one (ps_ret (pe_op op_shl pe_int (pv 0)))), ?_⟩
  try dsimp only [cxOf, Cx.nox, Cx.wish]
  obtain ⟨hk, h⟩ := h
  walk_at "ws"
  rw [Int.one_mul]
  exact h
theorem use_power {k : Int} {H : Hp} {Q : VK} {E : XK} (hk : 0 ≤ k ∧ k ≤ 1000000) (h : Q (.int (2 ^ k.toNat)) H) : sp_law_power K ([.int k] ++ []) H Q E := ⟨k, rfl, hk, h⟩
local macro_rules | `(tactic| walk_at "w1") => `(tactic| ((with_reducible refine use_power ?_ ?_); omega))
def fitsI (lo hi m : Int) (b : Bool) : Bool := if b = true then decide (-(2 ^ (m - 1).toNat) ≤ lo) && decide (hi < 2 ^ (m - 1).toNat) else decide (0 ≤ lo) && decide (hi < 2 ^ m.toNat)
def sp_law_fits (K : PySem.W.Frag) : Sp := fun vs H Q _ => ∃ (lo hi m : Int) (b : Bool), vs = [.int lo, .int hi, .int m, .bl b] ∧ (1 ≤ m ∧ m ≤ 1000000) ∧ Q (.bl (fitsI lo hi m b)) H
theorem ok_law_fits (T : Top K mg) : FnOk P w K mg base CX0 2 T.a_law_fits T.d_law_fits ["_law_low", "_law_high", "_law_many", "_law_below"] (sp_law_fits K) := by
  refine T.f_law_fits.ok sc_law_fits (fun vs H Q E h => ?_) (fun cdv A outer s H vs Q E hr h => ?_)
  · obtain ⟨lo, hi, m, b, rfl, _⟩ := h
    rfl
  obtain ⟨lo, hi, m, b, rfl, h⟩ := h
  refine ⟨_, (pss_cons (ps_if (pt_val (pv 3)) (pss_cons (ps_set (i := 4) sc_law_fits.nd rfl (.inl rfl) (pe_call (ok_law_power T) (hr.mono (by decide)) (by rfl) T.g_law_power T.f_law_power.kp T.b_law_power .nil pass0 (pa_cons (pe_op op_sub (pv 2) pe_int) pa_nil)))
      (pss_one (ps_ret (pe_and (pe_cmpR op_le (pe_un un_neg (pv 4)) (pv 0) (nomark _)) (pe_one (pe_cmpR op_lt (pv 1) (pv 4) (nomark _))))))) pss_nil)
      (pss_one (ps_ret (pe_and (pe_cmpR op_le pe_int (pv 0) (nomark _)) (pe_one (pe_cmpR op_lt (pv 1) (pe_call (ok_law_power T) (hr.mono (by decide)) (by rfl) T.g_law_power T.f_law_power.kp T.b_law_power .nil pass0 (pa_cons (pv 2) pa_nil)) (nomark _))))))), ?_⟩
  try dsimp only [cxOf, Cx.nox, Cx.wish]
  obtain ⟨hm, h⟩ := h
  walk_at "ws"
  · rename_i hb h1
    have e : fitsI lo hi m b = decide (hi < 2 ^ (m - 1).toNat) := by rw [fitsI, if_pos hb, decide_eq_true h1, Bool.true_and]
    rw [e] at h
    exact h
  · rename_i hb h1
    have e : fitsI lo hi m b = false := by rw [fitsI, if_pos hb, decide_eq_false h1, Bool.false_and]
    rw [e] at h
    exact h
  · rename_i hb h1
    have e : fitsI lo hi m b = decide (hi < 2 ^ m.toNat) := by rw [fitsI, hb, if_neg Bool.false_ne_true, decide_eq_true h1, Bool.true_and]
    rw [e] at h
    exact h
  · rename_i hb h1
    have e : fitsI lo hi m b = false := by rw [fitsI, hb, if_neg Bool.false_ne_true, decide_eq_false h1, Bool.false_and]
    rw [e] at h
    exact h
theorem use_fits {lo hi m : Int} {b : Bool} {H : Hp} {Q : VK} {E : XK} (hm : 1 ≤ m ∧ m ≤ 1000000) (h : Q (.bl (fitsI lo hi m b)) H) : sp_law_fits K ([.int lo, .int hi, .int m, .bl b] ++ []) H Q E := ⟨lo, hi, m, b, rfl, hm, h⟩
local macro_rules | `(tactic| walk_at "w1") => `(tactic| ((with_reducible refine use_fits ?_ ?_); omega))
theorem num_bd (x : Int) : (x % (2 * 10 ^ Int.toNat 60 - 1) - (10 ^ Int.toNat 60 - 1)).natAbs < 2 ^ 700 := by
  have e : (10 : Int) ^ Int.toNat 60 = 1000000000000000000000000000000000000000000000000000000000000 := by decide +kernel
  rw [e]
  have h : (x % (2 * 1000000000000000000000000000000000000000000000000000000000000 - 1) - (1000000000000000000000000000000000000000000000000000000000000 - 1)).natAbs ≤ 1000000000000000000000000000000000000000000000000000000000000 := by omega
  exact Nat.lt_of_le_of_lt h (by decide +kernel)
theorem pow_bd (k : Nat) (d : Int) (hk : k < 660) (hd : 0 ≤ d ∧ d ≤ 2) : ((2 : Int) ^ k + d - 1).natAbs < 2 ^ 700 := by
  have h1 : (2 : Nat) ^ k ≤ 2 ^ 660 := Nat.pow_le_pow_right (by decide) (by omega)
  have e : (2 : Int) ^ k = ((2 ^ k : Nat) : Int) := by rw [Int.natCast_pow]; rfl
  rw [e]
  generalize 2 ^ k = z at h1
  have h2 : (z + d - 1).natAbs ≤ z + 1 := by omega
  exact Nat.lt_of_le_of_lt h2 (Nat.lt_of_le_of_lt (Nat.add_le_add_right h1 1) (by decide +kernel))
def sp_law_number (K : PySem.W.Frag) : Sp := fun vs H Q _ => ∃ c k : Int, vs = [.int c, .int k] ∧ Builtin.Int.intBits c ≤ 1048576 ∧ (0 ≤ k ∧ k ≤ 10) ∧ ∀ v : Int, v.natAbs < 2 ^ 700 → Q (.int v) H
theorem ok_law_number (T : Top K mg) : FnOk P w K mg base CX0 2 T.a_law_number T.d_law_number ["_law_cell", "_law_k"] (sp_law_number K) := by
  refine T.f_law_number.ok sc_law_number (fun vs H Q E h => ?_) (fun cdv A outer s H vs Q E hr h => ?_)
  · obtain ⟨c, k, rfl, _⟩ := h
    rfl
  obtain ⟨c, k, rfl, h⟩ := h
  refine ⟨_, (pss_cons (ps_set (i := 2) sc_law_number.nd rfl (.inl rfl) (pe_call (ok_law_mixed T) (hr.mono (by decide)) (by rfl) T.g_law_mixed T.f_law_mixed.kp T.b_law_mixed .nil pass0 (pa_cons (pv 0) (pa_cons (pv 1) pa_nil))))
      (pss_cons (ps_if (pt_cmpR op_eq (pe_op op_mod (pv 2) pe_int) pe_int (nomark _)) (pss_one (ps_ret (pe_op op_sub (pe_op op_mod (pe_op op_mulI (pv 0) (pe_op op_add (pe_op op_add (pe_op op_pow pe_int pe_int) pe_int) (pv 1))) (pe_op op_sub (pe_op op_mulI pe_int (pe_op op_pow pe_int pe_int)) pe_int)) (pe_op op_sub (pe_op op_pow pe_int pe_int) pe_int)))) pss_nil)
      (pss_cons (ps_set (i := 3) sc_law_number.nd rfl (.inl rfl) (pe_op op_sub (pe_op op_add (pe_call (ok_law_power T) (hr.mono (by decide)) (by rfl) T.g_law_power T.f_law_power.kp T.b_law_power .nil pass0 (pa_cons (pe_op op_mod (pe_op op_fdiv (pv 2) pe_int) pe_int) pa_nil)) (pe_op op_mod (pe_op op_fdiv (pv 2) pe_int) pe_int)) pe_int))
      (pss_cons (ps_if (pt_cmpR op_eq (pe_op op_mod (pe_op op_fdiv (pv 2) pe_int) pe_int) pe_int (nomark _)) (pss_one (ps_ret (pe_un un_neg (pv 3)))) pss_nil)
      (pss_one (ps_ret (pv 3))))))), ?_⟩
  try dsimp only [cxOf, Cx.nox, Cx.wish]
  obtain ⟨hc, hk, h⟩ := h
  walk_at "ws"
  · refine w_I (mul_ok (n := 250) hc ?_ (by decide)) ?_
    · have e : (10 : Int) ^ Int.toNat 55 = 10000000000000000000000000000000000000000000000000000000 := by decide +kernel
      rw [e]
      exact Nat.lt_of_le_of_lt (show _ ≤ 20000000000000000000000000000000000000000000000000000000 by omega) (by decide +kernel)
    walk_at "ws"
    exact h _ (num_bd _)
  · rename_i v e0 e1 e2 e3 e4
    refine h _ ?_
    rw [Int.natAbs_neg]
    exact pow_bd _ _ (by omega) (by omega)
  · rename_i v e0 e1 e2 e3 e4
    exact h _ (pow_bd _ _ (by omega) (by omega))
theorem use_number {c k : Int} {H : Hp} {Q : VK} {E : XK} (hc : Builtin.Int.intBits c ≤ 1048576) (hk : 0 ≤ k ∧ k ≤ 10) (h : ∀ v : Int, v.natAbs < 2 ^ 700 → Q (.int v) H) : sp_law_number K ([.int c, .int k] ++ []) H Q E := ⟨c, k, rfl, hc, hk, h⟩
theorem ib_bd {x : Int} (h : x.natAbs < 2 ^ 700) : Builtin.Int.intBits x ≤ 701 := bits_of_int h
theorem ib_bd1 {x : Int} (h : x.natAbs < 2 ^ 700) : Builtin.Int.intBits (-x - 1) ≤ 702 := bits_of_int (n := 701) (by
  have : (-x - 1).natAbs ≤ x.natAbs + 1 := by omega
  exact Nat.lt_of_le_of_lt this (Nat.lt_of_le_of_lt (Nat.succ_le_of_lt h) (by decide +kernel)))
theorem ib_bd0 {x : Int} (h : x.natAbs < 2 ^ 700) : Builtin.Int.intBits (if x > 0 then x else 0) ≤ 701 := bits_of_int (by
  split
  · exact h
  · decide +kernel)
theorem room_good {lo hi : Int} (h : lo ≤ hi) (h1 : lo.natAbs < 2 ^ 700) (h2 : hi.natAbs < 2 ^ 700) :
    (1 ≤ (roomI lo hi).1 ∧ (roomI lo hi).1 ≤ 1000) ∧ (roomI lo hi).2 = decide (lo < 0) ∧ fitsI lo hi (roomI lo hi).1 (roomI lo hi).2 = true ∧ (1 < (roomI lo hi).1 → fitsI lo hi ((roomI lo hi).1 - 1) (roomI lo hi).2 = false) := by
  by_cases h0 : 0 ≤ lo
  · have hh : 0 ≤ hi := by omega
    have b := ib_bd h2
    have q := ib_le hh
    have e : roomI lo hi = (if (Builtin.Int.intBits hi : Int) > 1 then (Builtin.Int.intBits hi : Int) else 1, false) := by rw [roomI, if_pos h0]
    rw [e]
    generalize Builtin.Int.intBits hi = B at b q
    refine ⟨by dsimp only; split <;> omega, (decide_eq_false (by omega)).symm, ?_, fun z => ?_⟩
    · dsimp only
      rw [fitsI, if_neg Bool.false_ne_true, decide_eq_true h0, Bool.true_and]
      refine decide_eq_true ((q _).mp ?_)
      split <;> omega
    · dsimp only at z ⊢
      rw [fitsI, if_neg Bool.false_ne_true, decide_eq_true h0, Bool.true_and]
      refine decide_eq_false fun w => ?_
      have := (q _).mpr w
      split at z <;> split at this <;> omega
  · have b1 := ib_bd1 h1
    have b0 := ib_bd0 h2
    have q1 := ib_le (x := -lo - 1) (by omega)
    have q0 := ib_le (x := if hi > 0 then hi else 0) (by split <;> omega)
    have e : roomI lo hi = (1 + (if (Builtin.Int.intBits (if hi > 0 then hi else 0) : Int) > Builtin.Int.intBits (-lo - 1) then (Builtin.Int.intBits (if hi > 0 then hi else 0) : Int) else Builtin.Int.intBits (-lo - 1)), true) := by rw [roomI, if_neg h0]
    rw [e]
    generalize Builtin.Int.intBits (-lo - 1) = B1 at b1 q1
    have hz : Builtin.Int.intBits (if hi > 0 then hi else 0) = 0 ∨ 0 < hi := by
      by_cases z : hi > 0
      · exact .inr z
      · rw [if_neg z]
        exact .inl rfl
    generalize Builtin.Int.intBits (if hi > 0 then hi else 0) = B0 at b0 q0 hz
    have em : ∀ x : Int, 1 + x - 1 = x := fun x => by omega
    refine ⟨by dsimp only; split <;> omega, (decide_eq_true (by omega)).symm, ?_, fun z => ?_⟩
    · dsimp only
      rw [fitsI, if_pos rfl, em]
      have a1 := (q1 (if (B0 : Int) > (B1 : Int) then (B0 : Int) else (B1 : Int)).toNat).mp (by split <;> omega)
      have a0 := (q0 (if (B0 : Int) > (B1 : Int) then (B0 : Int) else (B1 : Int)).toNat).mp (by split <;> omega)
      generalize (2 : Int) ^ (if (B0 : Int) > (B1 : Int) then (B0 : Int) else (B1 : Int)).toNat = W at a1 a0
      rw [decide_eq_true (by omega), Bool.true_and]
      refine decide_eq_true ?_
      split at a0 <;> omega
    · dsimp only at z ⊢
      rw [fitsI, if_pos rfl, em]
      by_cases g : (B0 : Int) > (B1 : Int)
      · rw [if_pos g] at z ⊢
        have n0 : ¬ (B0 ≤ ((B0 : Int) - 1).toNat) := by omega
        have a0 : ¬ _ := fun w => n0 ((q0 _).mpr w)
        have hp : 0 < hi := by omega
        rw [if_pos hp] at a0
        rw [decide_eq_false a0, Bool.and_false]
      · rw [if_neg g] at z ⊢
        have n1 : ¬ (B1 ≤ ((B1 : Int) - 1).toNat) := by omega
        have a1 : ¬ _ := fun w => n1 ((q1 _).mpr w)
        generalize (2 : Int) ^ ((B1 : Int) - 1).toNat = W at a1 ⊢
        rw [decide_eq_false (by omega), Bool.false_and]
def sp_law (K : PySem.W.Frag) : Sp := fun vs H Q _ => ∃ (a : Addr) (ns : List Int), vs = [.ref a] ∧ SqL K H a (ns.map V.int) ∧ ns.length ≤ 63 ∧ (∀ z ∈ ns, Builtin.Int.intBits z ≤ 1048576) ∧ ∀ H', Q (.bl true) H'
theorem ok_law (T : Top K mg) : FnOk P w K mg base CX0 3 T.a_law T.d_law ["_law_script"] (sp_law K) := by
  refine T.f_law.ok sc_law (fun vs H Q E h => ?_) (fun cdv A outer s H vs Q E hr h => ?_)
  · obtain ⟨a, ns, rfl, _⟩ := h
    rfl
  obtain ⟨a, ns, rfl, h⟩ := h
  refine ⟨_, (pss_cons (ps_set (i := 1) sc_law.nd rfl (.inl rfl) (pe_op op_cat (pe_slice sl_list (pv 0) po_none (po_some pe_int)) (pe_lst (pa_cons pe_int pa_nil))))
      (pss_cons (ps_for PassesOwn.never rfl (pi_range1 (by rfl) T.z_range (pa_cons (pe_callB c_len (by rfl) T.z_len PySem.boot_len (pa_cons (pv 1) pa_nil)) pa_nil)) (pg_name (i := 2) sc_law.nd rfl (.inl rfl))
      (pss_cons (ps_set (i := 3) sc_law.nd rfl (.inl rfl) (pe_call (ok_law_number T) (hr.mono (by decide)) (by rfl) T.g_law_number T.f_law_number.kp T.b_law_number .nil pass0 (pa_cons (pe_ix ix_list (pv 1) (pv 2) (fun _ _ => rfl)) (pa_cons pe_int pa_nil))))
      (pss_cons (ps_set (i := 4) sc_law.nd rfl (.inl rfl) (pe_call (ok_law_number T) (hr.mono (by decide)) (by rfl) T.g_law_number T.f_law_number.kp T.b_law_number .nil pass0 (pa_cons (pe_ix ix_list (pv 1) (pe_op op_sub (pv 2) pe_int) (fun _ _ => rfl)) (pa_cons pe_int pa_nil))))
      (pss_cons (ps_set (i := 5) sc_law.nd rfl (.inl rfl) (pe_callB (c_min2 rfl) (by rfl) T.z_min (by decide +kernel) (pa_cons (pv 3) (pa_cons (pv 4) pa_nil))))
      (pss_cons (ps_set (i := 6) sc_law.nd rfl (.inl rfl) (pe_callB (c_max2 rfl) (by rfl) T.z_max (by decide +kernel) (pa_cons (pv 3) (pa_cons (pv 4) pa_nil))))
      (pss_cons (ps_set (i := 7) sc_law.nd rfl (.inl rfl) (pe_call (ok_room_of T) (hr.mono (by decide)) (by rfl) T.g_room_of T.f_room_of.kp T.b_room_of .nil pass0 (pa_cons (pe_tup (pa_cons (pv 5) (pa_cons (pv 6) pa_nil))) pa_nil)))
      (pss_cons (ps_if (PW.pt (pw_or (pt_not (pt_val (pe_callB call_isi (by rfl) T.z_isinstance (by decide +kernel) (pa_cons (pv 7) (pa_cons (pe_bltn (v := .ty "tuple") (by rfl) T.z_tuple (by decide +kernel) rfl) pa_nil))))) (pw_or1 (pt_cmpR op_ne (pe_callB c_len (by rfl) T.z_len PySem.boot_len (pa_cons (pv 7) pa_nil)) pe_int (nomark _))))) (pss_one (ps_ret pe_bl)) pss_nil)
      (pss_cons (ps_if (PW.pt (pw_or (pt_not (pt_val (pe_call (ok_law_whole T) (hr.mono (by decide)) (by rfl) T.g_law_whole T.f_law_whole.kp T.b_law_whole .nil pass0 (pa_cons (pe_ix ix_tup (pv 7) pe_int (fun _ _ => rfl)) pa_nil)))) (pw_or (pt_cmpR op_lt (pe_ix ix_tup (pv 7) pe_int (fun _ _ => rfl)) pe_int (nomark _)) (pw_or1 (pt_not (pt_val (pe_callB call_isi (by rfl) T.z_isinstance (by decide +kernel) (pa_cons (pe_ix ix_tup (pv 7) pe_int (fun _ _ => rfl)) (pa_cons (pe_bltn (v := .ty "bool") (by rfl) T.z_bool (by decide +kernel) rfl) pa_nil))))))))) (pss_one (ps_ret pe_bl)) pss_nil)
      (pss_cons (ps_if (PW.pt (pw_or (pt_cmpR op_ne (pe_ix ix_tup (pv 7) pe_int (fun _ _ => rfl)) (pe_cmpR op_lt (pv 5) pe_int (nomark _)) (nomark _)) (pw_or1 (pt_not (pt_val (pe_call (ok_law_fits T) (hr.mono (by decide)) (by rfl) T.g_law_fits T.f_law_fits.kp T.b_law_fits .nil pass0 (pa_cons (pv 5) (pa_cons (pv 6) (pa_cons (pe_ix ix_tup (pv 7) pe_int (fun _ _ => rfl)) (pa_cons (pe_ix ix_tup (pv 7) pe_int (fun _ _ => rfl)) pa_nil)))))))))) (pss_one (ps_ret pe_bl)) pss_nil)
      (pss_one (ps_if (PW.pt (pw_and (pt_cmpR op_gt (pe_ix ix_tup (pv 7) pe_int (fun _ _ => rfl)) pe_int (nomark _)) (pw_and1 (pt_val (pe_call (ok_law_fits T) (hr.mono (by decide)) (by rfl) T.g_law_fits T.f_law_fits.kp T.b_law_fits .nil pass0 (pa_cons (pv 5) (pa_cons (pv 6) (pa_cons (pe_op op_sub (pe_ix ix_tup (pv 7) pe_int (fun _ _ => rfl)) pe_int) (pa_cons (pe_ix ix_tup (pv 7) pe_int (fun _ _ => rfl)) pa_nil))))))))) (pss_one (ps_ret pe_bl)) pss_nil)))))))))))
      (pss_one (ps_ret pe_bl)))), ?_⟩
  try dsimp only [cxOf, Cx.nox, Cx.wish]
  obtain ⟨hS, hlen, hb, h⟩ := h
  have hb := cells_bits hb
  have hcl := cells_len ns
  walk_at "ws"
  · exact Nat.le_trans (Nat.add_le_add_right (cutV_le _ _ _ (by rw [List.length_map]; exact hlen)) 1) (by decide)
  rename_i l1 H1 n1 s1 e1 p2 H2 n2 s2 e2
  rw [cells_eq]
  intro l H3 n3 s3 e3
  walk_at "ws"
  refine for_r (fun i σ' H' => ∃ y2 y3 y4 y5 y6 y7, σ' = [some (.ref a), some (.ref l), y2, y3, y4, y5, y6, y7] ∧ Same H3 H') ⟨_, _, _, _, _, _, rfl, Same.refl _⟩ (fun i σ' H' hi p => ?_) (fun σ' H' p => ?_)
  · obtain ⟨y2, y3, y4, y5, y6, y7, rfl, sm⟩ := p
    have hi : i < (cells ns).length := by
      rw [List.length_map] at hi
      omega
    walk_at "ws"
    obtain ⟨c, hc, mc⟩ := atI_prev hi
    refine w_ixL (sm.seq (SqL.of e3)) (get_int hi) ?_
    walk_at "ws"
    refine use_number (hb _ (List.getElem_mem hi)) (by omega) fun x hx => ?_
    walk_at "ws"
    refine w_ixL (sm.seq (SqL.of e3)) hc ?_
    walk_at "ws"
    refine use_number (hb _ mc) (by omega) fun y hy => ?_
    walk_at "ws"
    rename_i pt G1 m1 t1 f1
    have hle : (if y < x then y else x) ≤ (if y > x then y else x) := by split <;> split <;> omega
    have hlo : (if y < x then y else x).natAbs < 2 ^ 700 := by split <;> assumption
    have hhi : (if y > x then y else x).natAbs < 2 ^ 700 := by split <;> assumption
    generalize (if y < x then y else x) = lo at *
    generalize (if y > x then y else x) = hgh at *
    obtain ⟨⟨r1, r2⟩, r3, r4, r5⟩ := room_good hle hlo hhi
    refine ⟨pt, lo, hgh, rfl, SqT.of f1, fun pr G2 m2 t2 f2 => ?_⟩
    generalize roomI lo hgh = r at *
    obtain ⟨rm, rb⟩ := r
    dsimp only at r1 r2 r3 r4 r5 f2
    walk_at "ws"
    · rename_i z
      exact absurd (by rw [r3]) z
    · rename_i z
      rw [r4] at z
      cases z
    · rename_i z1 z
      rw [r5 z1] at z
      cases z
    · exact ⟨_, _, _, _, _, _, rfl, (sm.trans t1).trans t2⟩
    · exact ⟨_, _, _, _, _, _, rfl, (sm.trans t1).trans t2⟩
  · walk_at "ws"
    exact h _
end
theorem end_sp_law {K : PySem.W.Frag} {H : Hp} {a : Addr} {ns : List Int} (hl : ns.length ≤ 63) (hb : ∀ z ∈ ns, Builtin.Int.intBits z ≤ 1048576) (_ : Only H) (hS : SqL K H a (ns.map V.int)) : sp_law K [.ref a] H (fun v _ => v = .bl true) fun _ _ _ => False :=
  ⟨a, ns, rfl, hS, hl, hb, fun _ => rfl⟩
theorem all_mk {l : PySem.W.OpenLaw} {w : World} {K : PySem.W.Frag} {h : Heap} {mg : Str → Option Value} {fa ha0 ha1 ha2 ha3 ha4 ha5 ha6 : Addr} (X : K.In h) (G : h.Ns mainGlobals mg) (hfa : mg "law" = some (.ref fa))
    {od0 an0 od1 an1 od2 an2 od3 an3 od4 an4 od5 an5 od6 an6 : Option Addr} {shl0 shl1 shl2 shl3 shl4 shl5 shl6 : Array (Option Value)} {oc0 kV0 dc0 pm0 cd0 ct0 oc1 kV1 dc1 pm1 cd1 ct1 oc2 kV2 dc2 pm2 cd2 ct2 oc3 kV3 dc3 pm3 cd3 ct3 oc4 kV4 dc4 pm4 cd4 ct4 oc5 kV5 dc5 pm5 cd5 ct5 oc6 kV6 dc6 pm6 cd6 ct6 : Value}
    (hg0 : PySem.W.nsIn K mainGlobals "room_of" = some (some (.ref ha0)))
    (hl0 : K.lookup ha0 = some ⟨oc0, od0, .func (PySem.W.fnOf "room_of" "room_of" (defArgs s_room_of) (defBody s_room_of) (defScope s_room_of) .none kV0 dc0 pm0 an0 cd0 ct0), shl0⟩)
    (hk0 : PySem.W.codeIn K cd0 "room_of" = true)
    (hp0 : PySem.W.keepIn K (.ref ha0) = true)
    (hg1 : PySem.W.nsIn K mainGlobals "_law_mixed" = some (some (.ref ha1)))
    (hl1 : K.lookup ha1 = some ⟨oc1, od1, .func (PySem.W.fnOf "_law_mixed" "_law_mixed" (defArgs s_law_mixed) (defBody s_law_mixed) (defScope s_law_mixed) .none kV1 dc1 pm1 an1 cd1 ct1), shl1⟩)
    (hk1 : PySem.W.codeIn K cd1 "_law_mixed" = true)
    (hp1 : PySem.W.keepIn K (.ref ha1) = true)
    (hg2 : PySem.W.nsIn K mainGlobals "_law_whole" = some (some (.ref ha2)))
    (hl2 : K.lookup ha2 = some ⟨oc2, od2, .func (PySem.W.fnOf "_law_whole" "_law_whole" (defArgs s_law_whole) (defBody s_law_whole) (defScope s_law_whole) .none kV2 dc2 pm2 an2 cd2 ct2), shl2⟩)
    (hk2 : PySem.W.codeIn K cd2 "_law_whole" = true)
    (hp2 : PySem.W.keepIn K (.ref ha2) = true)
    (hg3 : PySem.W.nsIn K mainGlobals "_law_power" = some (some (.ref ha3)))
    (hl3 : K.lookup ha3 = some ⟨oc3, od3, .func (PySem.W.fnOf "_law_power" "_law_power" (defArgs s_law_power) (defBody s_law_power) (defScope s_law_power) .none kV3 dc3 pm3 an3 cd3 ct3), shl3⟩)
    (hk3 : PySem.W.codeIn K cd3 "_law_power" = true)
    (hp3 : PySem.W.keepIn K (.ref ha3) = true)
    (hg4 : PySem.W.nsIn K mainGlobals "_law_fits" = some (some (.ref ha4)))
    (hl4 : K.lookup ha4 = some ⟨oc4, od4, .func (PySem.W.fnOf "_law_fits" "_law_fits" (defArgs s_law_fits) (defBody s_law_fits) (defScope s_law_fits) .none kV4 dc4 pm4 an4 cd4 ct4), shl4⟩)
    (hk4 : PySem.W.codeIn K cd4 "_law_fits" = true)
    (hp4 : PySem.W.keepIn K (.ref ha4) = true)
    (hg5 : PySem.W.nsIn K mainGlobals "_law_number" = some (some (.ref ha5)))
    (hl5 : K.lookup ha5 = some ⟨oc5, od5, .func (PySem.W.fnOf "_law_number" "_law_number" (defArgs s_law_number) (defBody s_law_number) (defScope s_law_number) .none kV5 dc5 pm5 an5 cd5 ct5), shl5⟩)
    (hk5 : PySem.W.codeIn K cd5 "_law_number" = true)
    (hp5 : PySem.W.keepIn K (.ref ha5) = true)
    (hg6 : PySem.W.nsIn K mainGlobals "law" = some (some (.ref ha6)))
    (hl6 : K.lookup ha6 = some ⟨oc6, od6, .func (PySem.W.fnOf "law" "law" (defArgs s_law) (defBody s_law) (defScope s_law) .none kV6 dc6 pm6 an6 cd6 ct6), shl6⟩)
    (hk6 : PySem.W.codeIn K cd6 "law" = true)
    (hp6 : PySem.W.keepIn K (.ref ha6) = true)
    (z_bool : PySem.W.nsIn K mainGlobals "bool" = some none)
    (z_int : PySem.W.nsIn K mainGlobals "int" = some none)
    (z_isinstance : PySem.W.nsIn K mainGlobals "isinstance" = some none)
    (z_len : PySem.W.nsIn K mainGlobals "len" = some none)
    (z_max : PySem.W.nsIn K mainGlobals "max" = some none)
    (z_min : PySem.W.nsIn K mainGlobals "min" = some none)
    (z_range : PySem.W.nsIn K mainGlobals "range" = some none)
    (z_tuple : PySem.W.nsIn K mainGlobals "tuple" = some none) :
    ∃ fd : FuncData, (∀ (s : Shared) (v : Value), BindsTo s fd ⟨[v], []⟩ [("_law_script", v)]) ∧ ∀ base : Heap, K.In base → base.Ns mainGlobals mg → FnOk l.prog w K mg base CX0 3 fa fd ["_law_script"] (sp_law K) := by
  have e := hfa.symm.trans (PySem.W.mg_of X G hg6)
  cases e
  have F0 := fun_mk (st := s_room_of) hl0 hk0 hp0
  have B0 := F0.binds (ps := ["span"]) fun _ _ _ _ _ _ us hl => match us, hl with | [_], _ => rfl
  have F1 := fun_mk (st := s_law_mixed) hl1 hk1 hp1
  have B1 := F1.binds (ps := ["_law_cell", "_law_k"]) fun _ _ _ _ _ _ us hl => match us, hl with | [_, _], _ => rfl
  have F2 := fun_mk (st := s_law_whole) hl2 hk2 hp2
  have B2 := F2.binds (ps := ["_law_found"]) fun _ _ _ _ _ _ us hl => match us, hl with | [_], _ => rfl
  have F3 := fun_mk (st := s_law_power) hl3 hk3 hp3
  have B3 := F3.binds (ps := ["_law_many"]) fun _ _ _ _ _ _ us hl => match us, hl with | [_], _ => rfl
  have F4 := fun_mk (st := s_law_fits) hl4 hk4 hp4
  have B4 := F4.binds (ps := ["_law_low", "_law_high", "_law_many", "_law_below"]) fun _ _ _ _ _ _ us hl => match us, hl with | [_, _, _, _], _ => rfl
  have F5 := fun_mk (st := s_law_number) hl5 hk5 hp5
  have B5 := F5.binds (ps := ["_law_cell", "_law_k"]) fun _ _ _ _ _ _ us hl => match us, hl with | [_, _], _ => rfl
  have F6 := fun_mk (st := s_law) hl6 hk6 hp6
  have B6 := F6.binds (ps := ["_law_script"]) fun _ _ _ _ _ _ us hl => match us, hl with | [_], _ => rfl
  let T : Top K mg := ⟨ha0,
    _,
    F0,
    B0,
    PySem.W.mg_of X G hg0,
    ha1,
    _,
    F1,
    B1,
    PySem.W.mg_of X G hg1,
    ha2,
    _,
    F2,
    B2,
    PySem.W.mg_of X G hg2,
    ha3,
    _,
    F3,
    B3,
    PySem.W.mg_of X G hg3,
    ha4,
    _,
    F4,
    B4,
    PySem.W.mg_of X G hg4,
    ha5,
    _,
    F5,
    B5,
    PySem.W.mg_of X G hg5,
    fa,
    _,
    F6,
    B6,
    PySem.W.mg_of X G hg6,
    PySem.W.mg_none_of X G z_bool,
    PySem.W.mg_none_of X G z_int,
    PySem.W.mg_none_of X G z_isinstance,
    PySem.W.mg_none_of X G z_len,
    PySem.W.mg_none_of X G z_max,
    PySem.W.mg_none_of X G z_min,
    PySem.W.mg_none_of X G z_range,
    PySem.W.mg_none_of X G z_tuple⟩
  exact ⟨T.d_law, fun s v => .of_eq rfl, fun base _ _ => ok_law T⟩
end Dpr
open PySem PySem.W PyProof.Rows
set_option maxHeartbeats 0 in
theorem PySem.Challenge.cw_dotpress_k03_the_room_of_a_span_holds : PySem.Challenge.rw_dotpress_k03_the_room_of_a_span.Holds := by
  w_on; o_law; k_head; (case hw => w_witness2)
  k_fill
  refine L2.walk_ofB (l := PySem.Challenge.rw_dotpress_k03_the_room_of_a_span) (n := 63) (k := 3) (x := "_law_script") (CX := fun _ => L2.CX0) (sp := fun w => Dpr.sp_law _) rfl (by decide) rfl ⟨rfl, by decide, by decide⟩ (fun w h Y => PySem.W.kIn_of Y) ?F (fun w H a ns hl hb hO hS => Dpr.end_sp_law hl hb hO hS) (fun _ _ _ _ _ h => h)
  case F =>
    intro w mg fa h KX G hmg
    refine' Dpr.all_mk KX G hmg ?hg0 ?hl0 ?hk0 ?hp0 ?hg1 ?hl1 ?hk1 ?hp1 ?hg2 ?hl2 ?hk2 ?hp2 ?hg3 ?hl3 ?hk3 ?hp3 ?hg4 ?hl4 ?hk4 ?hp4 ?hg5 ?hl5 ?hk5 ?hp5 ?hg6 ?hl6 ?hk6 ?hp6 ?z_bool ?z_int ?z_isinstance ?z_len ?z_max ?z_min ?z_range ?z_tuple
    (case hg0 => k_is)
    (case hl0 => k_is)
    (case hk0 => k_is)
    (case hp0 => k_is)
    (case hg1 => k_is)
    (case hl1 => k_is)
    (case hk1 => k_is)
    (case hp1 => k_is)
    (case hg2 => k_is)
    (case hl2 => k_is)
    (case hk2 => k_is)
    (case hp2 => k_is)
    (case hg3 => k_is)
    (case hl3 => k_is)
    (case hk3 => k_is)
    (case hp3 => k_is)
    (case hg4 => k_is)
    (case hl4 => k_is)
    (case hk4 => k_is)
    (case hp4 => k_is)
    (case hg5 => k_is)
    (case hl5 => k_is)
    (case hk5 => k_is)
    (case hp5 => k_is)
    (case hg6 => k_is)
    (case hl6 => k_is)
    (case hk6 => k_is)
    (case hp6 => k_is)
    (case z_bool => k_is)
    (case z_int => k_is)
    (case z_isinstance => k_is)
    (case z_len => k_is)
    (case z_max => k_is)
    (case z_min => k_is)
    (case z_range => k_is)
    (case z_tuple => k_is)


