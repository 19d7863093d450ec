import Derived.Test.YtpgigkceoolgeaaGreatDoorS005
import Derived.KernelRfl
set_option linter.all false
namespace Go.Proofs.YtpgigkceoolgeaaGreatDoor.Fd
open Go
set_option maxRecDepth 100000
theorem mixed:Tryz.prog.follows .mixedOrders=true:=by kernel_rfl
theorem FQ:knd Tryz.prog 2=some false:=by kernel_rfl
theorem FR:siz Tryz.prog 2=some 1:=by kernel_rfl
theorem FS:knd Tryz.prog 3=some false:=by kernel_rfl
theorem FT:siz Tryz.prog 3=some 1:=by kernel_rfl
theorem FU:zer Tryz.prog 3=some (.int .i64 0):=by kernel_rfl
theorem FV:knd Tryz.prog 4=some false:=by kernel_rfl
theorem FW:siz Tryz.prog 4=some 1:=by kernel_rfl
theorem FX:tag Tryz.prog 4=1:=by kernel_rfl
theorem FY:knd Tryz.prog 5=some false:=by kernel_rfl
theorem bJ:siz Tryz.prog 5=some 1:=by kernel_rfl
theorem fY:byt Tryz.prog 5=some 1:=by kernel_rfl
theorem fZ:zer Tryz.prog 5=some (.int .u8 0):=by kernel_rfl
theorem FZ:knd Tryz.prog 9=some false:=by kernel_rfl
theorem F0:elt Tryz.prog 22=some 45:=by kernel_rfl
theorem F1:knd Tryz.prog 24=some false:=by kernel_rfl
theorem F4:tag Tryz.prog 24=2:=by kernel_rfl
theorem F5:knd Tryz.prog 29=some false:=by kernel_rfl
theorem F6:siz Tryz.prog 29=some 1:=by kernel_rfl
theorem F7:knd Tryz.prog 32=some false:=by kernel_rfl
theorem F8:siz Tryz.prog 32=some 1:=by kernel_rfl
theorem F9:zer Tryz.prog 32=some (.slice none 0 0):=by kernel_rfl
theorem GA:elt Tryz.prog 32=some 76:=by kernel_rfl
theorem GB:knd Tryz.prog 33=some false:=by kernel_rfl
theorem GC:siz Tryz.prog 33=some 1:=by kernel_rfl
theorem GD:elt Tryz.prog 33=some 88:=by kernel_rfl
theorem GE:knd Tryz.prog 35=some true:=by kernel_rfl
theorem GF:siz Tryz.prog 35=some 2:=by kernel_rfl
theorem GG:zer Tryz.prog 35=some (.agg #[(.slice none 0 0),(.slice none 0 0)]):=by kernel_rfl
theorem GH:fofs Tryz.prog 35 0=some 0:=by kernel_rfl
theorem GI:fofs Tryz.prog 35 1=some 1:=by kernel_rfl
theorem GJ:knd Tryz.prog 37=some true:=by kernel_rfl
theorem GK:siz Tryz.prog 37=some 4:=by kernel_rfl
theorem GL:fofs Tryz.prog 37 0=some 0:=by kernel_rfl
theorem GM:fofs Tryz.prog 37 1=some 1:=by kernel_rfl
theorem GN:fofs Tryz.prog 37 2=some 3:=by kernel_rfl
theorem GO:knd Tryz.prog 38=some false:=by kernel_rfl
theorem GP:siz Tryz.prog 38=some 1:=by kernel_rfl
theorem pJ:elt Tryz.prog 38=some 55:=by kernel_rfl
theorem GQ:fofs Tryz.prog 40 0=some 0:=by kernel_rfl
theorem GR:fofs Tryz.prog 40 1=some 4:=by kernel_rfl
theorem GS:fofs Tryz.prog 40 2=some 5:=by kernel_rfl
theorem GT:fofs Tryz.prog 40 3=some 6:=by kernel_rfl
theorem GU:knd Tryz.prog 43=some false:=by kernel_rfl
theorem GV:elt Tryz.prog 43=some 4:=by kernel_rfl
theorem GW:siz Tryz.prog 45=some 6:=by kernel_rfl
theorem GX:fofs Tryz.prog 45 0=some 0:=by kernel_rfl
theorem GY:fofs Tryz.prog 45 1=some 1:=by kernel_rfl
theorem GZ:fofs Tryz.prog 45 2=some 2:=by kernel_rfl
theorem G0:fofs Tryz.prog 45 3=some 4:=by kernel_rfl
theorem G1:fofs Tryz.prog 45 4=some 5:=by kernel_rfl
theorem G2:knd Tryz.prog 52=some false:=by kernel_rfl
theorem G3:siz Tryz.prog 52=some 1:=by kernel_rfl
theorem G4:knd Tryz.prog 55=some false:=by kernel_rfl
theorem pK:siz Tryz.prog 55=some 1:=by kernel_rfl
theorem pL:byt Tryz.prog 55=some 24:=by kernel_rfl
theorem pM:zer Tryz.prog 55=some (.slice none 0 0):=by kernel_rfl
theorem cG:elt Tryz.prog 55=some 5:=by kernel_rfl
theorem G5:knd Tryz.prog 59=some false:=by kernel_rfl
theorem G6:siz Tryz.prog 59=some 1:=by kernel_rfl
theorem G7:knd Tryz.prog 74=some false:=by kernel_rfl
theorem G8:siz Tryz.prog 74=some 1:=by kernel_rfl
theorem G9:elt Tryz.prog 74=some 129:=by kernel_rfl
theorem HA:knd Tryz.prog 76=some true:=by kernel_rfl
theorem HB:siz Tryz.prog 76=some 6:=by kernel_rfl
theorem HC:fofs Tryz.prog 76 0=some 0:=by kernel_rfl
theorem HD:fofs Tryz.prog 76 1=some 1:=by kernel_rfl
theorem HE:fofs Tryz.prog 76 2=some 2:=by kernel_rfl
theorem HF:fofs Tryz.prog 76 3=some 3:=by kernel_rfl
theorem HG:fofs Tryz.prog 76 4=some 4:=by kernel_rfl
theorem HH:fofs Tryz.prog 76 5=some 5:=by kernel_rfl
theorem HI:fofs Tryz.prog 82 0=some 0:=by kernel_rfl
theorem HJ:fofs Tryz.prog 82 1=some 1:=by kernel_rfl
theorem HK:fofs Tryz.prog 82 2=some 2:=by kernel_rfl
theorem HL:knd Tryz.prog 83=some false:=by kernel_rfl
theorem HM:siz Tryz.prog 83=some 1:=by kernel_rfl
theorem HN:elt Tryz.prog 83=some 175:=by kernel_rfl
theorem HO:siz Tryz.prog 85=some 8:=by kernel_rfl
theorem HP:fofs Tryz.prog 85 0=some 0:=by kernel_rfl
theorem HQ:fofs Tryz.prog 85 1=some 3:=by kernel_rfl
theorem HR:fofs Tryz.prog 85 2=some 4:=by kernel_rfl
theorem HS:fofs Tryz.prog 85 3=some 5:=by kernel_rfl
theorem HT:fofs Tryz.prog 85 4=some 6:=by kernel_rfl
theorem HU:fofs Tryz.prog 85 5=some 7:=by kernel_rfl
theorem HV:knd Tryz.prog 86=some false:=by kernel_rfl
theorem HW:siz Tryz.prog 86=some 1:=by kernel_rfl
theorem HX:elt Tryz.prog 86=some 154:=by kernel_rfl
theorem HY:siz Tryz.prog 88=some 9:=by kernel_rfl
theorem HZ:fofs Tryz.prog 88 0=some 0:=by kernel_rfl
theorem H0:fofs Tryz.prog 88 1=some 8:=by kernel_rfl
theorem H1:knd Tryz.prog 90=some true:=by kernel_rfl
theorem H2:siz Tryz.prog 90=some 4:=by kernel_rfl
theorem H3:fofs Tryz.prog 90 0=some 0:=by kernel_rfl
theorem H4:fofs Tryz.prog 90 1=some 1:=by kernel_rfl
theorem H5:fofs Tryz.prog 90 2=some 3:=by kernel_rfl
theorem H6:fofs Tryz.prog 92 0=some 0:=by kernel_rfl
theorem H7:fofs Tryz.prog 92 1=some 1:=by kernel_rfl
theorem H9:fofs Tryz.prog 92 2=some 2:=by kernel_rfl
theorem IA:fofs Tryz.prog 92 3=some 6:=by kernel_rfl
theorem IB:knd Tryz.prog 95=some false:=by kernel_rfl
theorem IC:siz Tryz.prog 95=some 1:=by kernel_rfl
theorem pN:elt Tryz.prog 95=some 156:=by kernel_rfl
theorem ID:fofs Tryz.prog 97 0=some 0:=by kernel_rfl
theorem IE:fofs Tryz.prog 97 1=some 1:=by kernel_rfl
theorem IF:fofs Tryz.prog 97 2=some 2:=by kernel_rfl
theorem IG:fofs Tryz.prog 97 3=some 3:=by kernel_rfl
theorem IH:fofs Tryz.prog 97 4=some 4:=by kernel_rfl
theorem II:fofs Tryz.prog 97 5=some 5:=by kernel_rfl
theorem IJ:fofs Tryz.prog 100 0=some 0:=by kernel_rfl
theorem IK:fofs Tryz.prog 100 1=some 1:=by kernel_rfl
theorem IL:fofs Tryz.prog 100 2=some 2:=by kernel_rfl
theorem IM:fofs Tryz.prog 100 3=some 3:=by kernel_rfl
theorem IN:fofs Tryz.prog 100 4=some 4:=by kernel_rfl
theorem IP:fofs Tryz.prog 100 5=some 5:=by kernel_rfl
theorem IQ:fofs Tryz.prog 100 6=some 6:=by kernel_rfl
theorem IS:fofs Tryz.prog 108 0=some 0:=by kernel_rfl
theorem IT:fofs Tryz.prog 108 1=some 1:=by kernel_rfl
theorem IU:fofs Tryz.prog 108 2=some 2:=by kernel_rfl
theorem IV:fofs Tryz.prog 108 3=some 3:=by kernel_rfl
theorem IW:fofs Tryz.prog 108 4=some 4:=by kernel_rfl
theorem IX:knd Tryz.prog 129=some true:=by kernel_rfl
theorem IY:siz Tryz.prog 129=some 2:=by kernel_rfl
theorem IZ:zer Tryz.prog 129=some (.agg #[(.string ByteArray.empty),(.slice none 0 0)]):=by kernel_rfl
theorem I0:fofs Tryz.prog 129 0=some 0:=by kernel_rfl
theorem I1:fofs Tryz.prog 129 1=some 1:=by kernel_rfl
theorem I2:knd Tryz.prog 132=some false:=by kernel_rfl
theorem I3:siz Tryz.prog 132=some 1:=by kernel_rfl
theorem I4:zer Tryz.prog 132=some (.pointer none):=by kernel_rfl
theorem I5:knd Tryz.prog 154=some true:=by kernel_rfl
theorem I6:siz Tryz.prog 154=some 2:=by kernel_rfl
theorem I7:fofs Tryz.prog 154 0=some 0:=by kernel_rfl
theorem I8:fofs Tryz.prog 154 1=some 1:=by kernel_rfl
theorem I9:knd Tryz.prog 156=some true:=by kernel_rfl
theorem pO:siz Tryz.prog 156=some 2:=by kernel_rfl
theorem pP:byt Tryz.prog 156=some 32:=by kernel_rfl
theorem pQ:zer Tryz.prog 156=some (.agg #[(.int .i64 0),(.slice none 0 0)]):=by kernel_rfl
theorem JA:fofs Tryz.prog 156 0=some 0:=by kernel_rfl
theorem JB:fofs Tryz.prog 156 1=some 1:=by kernel_rfl
theorem JC:zer Tryz.prog 165=some (.agg #[(.slice none 0 0)]):=by kernel_rfl
theorem JD:fofs Tryz.prog 165 0=some 0:=by kernel_rfl
theorem JE:knd Tryz.prog 175=some true:=by kernel_rfl
theorem JF:siz Tryz.prog 175=some 3:=by kernel_rfl
theorem JG:zer Tryz.prog 175=some (.agg #[(.int .i64 0),(.int .i64 0),(.slice none 0 0)]):=by kernel_rfl
theorem JH:fofs Tryz.prog 175 0=some 0:=by kernel_rfl
theorem JI:fofs Tryz.prog 175 1=some 1:=by kernel_rfl
theorem JJ:fofs Tryz.prog 175 2=some 2:=by kernel_rfl
theorem JK:fofs Tryz.prog 178 0=some 0:=by kernel_rfl
theorem JL:fofs Tryz.prog 178 1=some 1:=by kernel_rfl
theorem JN:fofs Tryz.prog 178 2=some 2:=by kernel_rfl
theorem JP:fofs Tryz.prog 178 3=some 3:=by kernel_rfl
theorem k9:knd Tryz.prog 187=some true:=by kernel_rfl
theorem gA:siz Tryz.prog 187=some 44:=by kernel_rfl
theorem JQ:zer Tryz.prog 187=some (.agg (List.replicate 44 (.int .u8 0:Value)).toArray):=by kernel_rfl
theorem iN:arrOf Tryz.prog 187=some (44,5):=by kernel_rfl
theorem JR:knd Tryz.prog 203=some true:=by kernel_rfl
theorem JU:siz Tryz.prog 203=some 2:=by kernel_rfl
theorem JV:zer Tryz.prog 203=some (.agg #[(.int .i64 0),(.slice none 0 0)]):=by kernel_rfl
theorem JX:fofs Tryz.prog 203 0=some 0:=by kernel_rfl
theorem JY:fofs Tryz.prog 203 1=some 1:=by kernel_rfl
theorem JZ:elt Tryz.prog 204=some 203:=by kernel_rfl
theorem J0:elt Tryz.prog 212=some 3:=by kernel_rfl
theorem J1:elt Tryz.prog 213=some 32:=by kernel_rfl
theorem pR:knd Tryz.prog 225=some false:=by kernel_rfl
theorem pS:siz Tryz.prog 225=some 1:=by kernel_rfl
theorem J3:knd Tryz.prog 228=some true:=by kernel_rfl
theorem J4:siz Tryz.prog 228=some 8:=by kernel_rfl
theorem J5:zer Tryz.prog 228=some (.agg #[(.int .u32 0),(.int .u32 0),(.int .u32 0),(.int .u32 0),(.int .u32 0),(.int .u32 0),(.int .u32 0),(.int .u32 0)]):=by kernel_rfl
theorem pT:arrOf Tryz.prog 228=some (8,225):=by kernel_rfl
theorem J6:fofs Tryz.prog 231 0=some 0:=by kernel_rfl
theorem J7:fofs Tryz.prog 231 1=some 8:=by kernel_rfl
theorem J8:fofs Tryz.prog 231 2=some 9:=by kernel_rfl
theorem J9:zer Tryz.prog 238=some (.agg (List.replicate 64 (.int .u32 0:Value)).toArray):=by kernel_rfl
theorem KF:arrOf Tryz.prog 238=some (64,225):=by kernel_rfl
theorem hb8:hasB Tryz.prog 8=true:=by kernel_rfl
theorem hb9:hasB Tryz.prog 9=true:=by kernel_rfl
theorem KG:hasB Tryz.prog 10=true:=by kernel_rfl
theorem iO:hasB Tryz.prog 11=true:=by kernel_rfl
theorem hb13:hasB Tryz.prog 13=true:=by kernel_rfl
theorem hb14:hasB Tryz.prog 14=true:=by kernel_rfl
theorem hb15:hasB Tryz.prog 15=true:=by kernel_rfl
theorem hb16:hasB Tryz.prog 16=true:=by kernel_rfl
theorem hb17:hasB Tryz.prog 17=true:=by kernel_rfl
theorem hb18:hasB Tryz.prog 18=true:=by kernel_rfl
theorem hb19:hasB Tryz.prog 19=true:=by kernel_rfl
theorem KH:hasB Tryz.prog 20=true:=by kernel_rfl
theorem KI:hasB Tryz.prog 21=true:=by kernel_rfl
theorem KK:hasB Tryz.prog 22=true:=by kernel_rfl
theorem KM:hasB Tryz.prog 23=true:=by kernel_rfl
theorem KN:hasB Tryz.prog 24=true:=by kernel_rfl
theorem KP:hasB Tryz.prog 25=true:=by kernel_rfl
theorem KQ:hasB Tryz.prog 26=true:=by kernel_rfl
theorem KU:hasB Tryz.prog 27=true:=by kernel_rfl
theorem KV:hasB Tryz.prog 28=true:=by kernel_rfl
theorem KW:hasB Tryz.prog 29=true:=by kernel_rfl
theorem KX:hasB Tryz.prog 31=true:=by kernel_rfl
theorem KY:hasB Tryz.prog 32=true:=by kernel_rfl
theorem KZ:hasB Tryz.prog 33=true:=by kernel_rfl
theorem K0:hasB Tryz.prog 34=true:=by kernel_rfl
theorem K1:hasB Tryz.prog 35=true:=by kernel_rfl
theorem K2:hasB Tryz.prog 36=true:=by kernel_rfl
theorem K3:hasB Tryz.prog 37=true:=by kernel_rfl
theorem K4:hasB Tryz.prog 38=true:=by kernel_rfl
theorem K5:hasB Tryz.prog 39=true:=by kernel_rfl
theorem K6:hasB Tryz.prog 40=true:=by kernel_rfl
theorem K7:hasB Tryz.prog 41=true:=by kernel_rfl
theorem K8:hasB Tryz.prog 42=true:=by kernel_rfl
theorem K9:hasB Tryz.prog 43=true:=by kernel_rfl
theorem LA:hasB Tryz.prog 44=true:=by kernel_rfl
theorem LC:hasB Tryz.prog 45=true:=by kernel_rfl
theorem LD:hasB Tryz.prog 46=true:=by kernel_rfl
theorem LE:hasB Tryz.prog 47=true:=by kernel_rfl
theorem LF:hasB Tryz.prog 48=true:=by kernel_rfl
theorem LG:hasB Tryz.prog 49=true:=by kernel_rfl
theorem LH:hasB Tryz.prog 50=true:=by kernel_rfl
theorem LI:hasB Tryz.prog 51=true:=by kernel_rfl
theorem LJ:hasB Tryz.prog 52=true:=by kernel_rfl
theorem LK:hasB Tryz.prog 53=true:=by kernel_rfl
theorem LL:hasB Tryz.prog 54=true:=by kernel_rfl
theorem LM:hasB Tryz.prog 55=true:=by kernel_rfl
theorem LN:hasB Tryz.prog 56=true:=by kernel_rfl
theorem LO:hasB Tryz.prog 57=true:=by kernel_rfl
theorem LP:hasB Tryz.prog 59=true:=by kernel_rfl
theorem LQ:hasB Tryz.prog 60=true:=by kernel_rfl
theorem LR:hasB Tryz.prog 61=true:=by kernel_rfl
theorem LU:hasB Tryz.prog 63=true:=by kernel_rfl
theorem LV:hasB Tryz.prog 65=true:=by kernel_rfl
theorem LY:hasB Tryz.prog 66=true:=by kernel_rfl
theorem LZ:hasB Tryz.prog 67=true:=by kernel_rfl
theorem L3:hasB Tryz.prog 69=true:=by kernel_rfl
theorem L4:hasB Tryz.prog 70=true:=by kernel_rfl
theorem L5:hasB Tryz.prog 71=true:=by kernel_rfl
theorem L6:hasB Tryz.prog 73=true:=by kernel_rfl
theorem L7:hasB Tryz.prog 74=true:=by kernel_rfl
theorem L8:hasB Tryz.prog 75=true:=by kernel_rfl
theorem L9:hasB Tryz.prog 76=true:=by kernel_rfl
theorem MA:hasB Tryz.prog 77=true:=by kernel_rfl
theorem MC:hasB Tryz.prog 78=true:=by kernel_rfl
theorem MD:hasB Tryz.prog 79=true:=by kernel_rfl
theorem ME:hasB Tryz.prog 80=true:=by kernel_rfl
theorem MF:hasB Tryz.prog 81=true:=by kernel_rfl
theorem MG:hasB Tryz.prog 82=true:=by kernel_rfl
theorem MH:hasB Tryz.prog 83=true:=by kernel_rfl
theorem MI:hasB Tryz.prog 84=true:=by kernel_rfl
theorem MJ:hasB Tryz.prog 85=true:=by kernel_rfl
theorem MK:hasB Tryz.prog 86=true:=by kernel_rfl
theorem ML:hasB Tryz.prog 87=true:=by kernel_rfl
theorem MM:hasB Tryz.prog 88=true:=by kernel_rfl
theorem MN:hasB Tryz.prog 89=true:=by kernel_rfl
theorem MO:hasB Tryz.prog 90=true:=by kernel_rfl
theorem MP:hasB Tryz.prog 91=true:=by kernel_rfl
theorem MQ:hasB Tryz.prog 92=true:=by kernel_rfl
theorem MR:hasB Tryz.prog 93=true:=by kernel_rfl
theorem MS:hasB Tryz.prog 94=true:=by kernel_rfl
theorem MT:hasB Tryz.prog 95=true:=by kernel_rfl
theorem MU:hasB Tryz.prog 96=true:=by kernel_rfl
theorem MV:hasB Tryz.prog 97=true:=by kernel_rfl
theorem MW:hasB Tryz.prog 98=true:=by kernel_rfl
theorem MX:hasB Tryz.prog 99=true:=by kernel_rfl
theorem MY:hasB Tryz.prog 100=true:=by kernel_rfl
theorem MZ:hasB Tryz.prog 101=true:=by kernel_rfl
theorem M0:hasB Tryz.prog 102=true:=by kernel_rfl
theorem M1:hasB Tryz.prog 103=true:=by kernel_rfl
theorem M2:hasB Tryz.prog 104=true:=by kernel_rfl
theorem M3:hasB Tryz.prog 105=true:=by kernel_rfl
theorem M4:hasB Tryz.prog 106=true:=by kernel_rfl
theorem M5:hasB Tryz.prog 107=true:=by kernel_rfl
theorem M6:hasB Tryz.prog 108=true:=by kernel_rfl
theorem M7:hasB Tryz.prog 109=true:=by kernel_rfl
theorem M8:hasB Tryz.prog 110=true:=by kernel_rfl
theorem M9:hasB Tryz.prog 111=true:=by kernel_rfl
theorem NA:hasB Tryz.prog 112=true:=by kernel_rfl
theorem NB:hasB Tryz.prog 113=true:=by kernel_rfl
theorem NC:hasB Tryz.prog 114=true:=by kernel_rfl
theorem ND:hasB Tryz.prog 115=true:=by kernel_rfl
theorem NE:hasB Tryz.prog 116=true:=by kernel_rfl
theorem NF:hasB Tryz.prog 117=true:=by kernel_rfl
theorem NG:hasB Tryz.prog 118=true:=by kernel_rfl
theorem NH:hasB Tryz.prog 119=true:=by kernel_rfl
theorem NI:hasB Tryz.prog 120=true:=by kernel_rfl
theorem NJ:hasB Tryz.prog 121=true:=by kernel_rfl
theorem NK:hasB Tryz.prog 122=true:=by kernel_rfl
theorem NL:hasB Tryz.prog 123=true:=by kernel_rfl
theorem NM:hasB Tryz.prog 124=true:=by kernel_rfl
theorem NN:hasB Tryz.prog 125=true:=by kernel_rfl
theorem NO:hasB Tryz.prog 126=true:=by kernel_rfl
theorem NP:hasB Tryz.prog 127=true:=by kernel_rfl
theorem NQ:hasB Tryz.prog 129=true:=by kernel_rfl
theorem NR:hasB Tryz.prog 130=true:=by kernel_rfl
theorem NS:hasB Tryz.prog 131=true:=by kernel_rfl
theorem NT:hasB Tryz.prog 132=true:=by kernel_rfl
theorem NU:hasB Tryz.prog 133=true:=by kernel_rfl
theorem NV:hasB Tryz.prog 134=true:=by kernel_rfl
theorem NW:hasB Tryz.prog 135=true:=by kernel_rfl
theorem NX:hasB Tryz.prog 136=true:=by kernel_rfl
theorem NY:hasB Tryz.prog 137=true:=by kernel_rfl
theorem NZ:hasB Tryz.prog 138=true:=by kernel_rfl
theorem N0:hasB Tryz.prog 139=true:=by kernel_rfl
theorem N1:hasB Tryz.prog 140=true:=by kernel_rfl
theorem N2:hasB Tryz.prog 141=true:=by kernel_rfl
theorem N3:hasB Tryz.prog 142=true:=by kernel_rfl
theorem N4:hasB Tryz.prog 143=true:=by kernel_rfl
theorem N5:hasB Tryz.prog 144=true:=by kernel_rfl
theorem N6:hasB Tryz.prog 145=true:=by kernel_rfl
theorem N7:hasB Tryz.prog 146=true:=by kernel_rfl
theorem N8:hasB Tryz.prog 147=true:=by kernel_rfl
theorem N9:hasB Tryz.prog 148=true:=by kernel_rfl
theorem OA:hasB Tryz.prog 149=true:=by kernel_rfl
theorem OB:hasB Tryz.prog 150=true:=by kernel_rfl
theorem OC:hasB Tryz.prog 151=true:=by kernel_rfl
theorem OD:hasB Tryz.prog 152=true:=by kernel_rfl
theorem OE:hasB Tryz.prog 153=true:=by kernel_rfl
theorem OF:hasB Tryz.prog 154=true:=by kernel_rfl
theorem OG:hasB Tryz.prog 155=true:=by kernel_rfl
theorem OH:hasB Tryz.prog 156=true:=by kernel_rfl
theorem OI:hasB Tryz.prog 157=true:=by kernel_rfl
theorem OJ:hasB Tryz.prog 158=true:=by kernel_rfl
theorem OK:hasB Tryz.prog 159=true:=by kernel_rfl
theorem OL:hasB Tryz.prog 160=true:=by kernel_rfl
theorem OM:hasB Tryz.prog 161=true:=by kernel_rfl
theorem ON:hasB Tryz.prog 162=true:=by kernel_rfl
theorem OO:hasB Tryz.prog 163=true:=by kernel_rfl
theorem OP:hasB Tryz.prog 164=true:=by kernel_rfl
theorem OQ:hasB Tryz.prog 165=true:=by kernel_rfl
theorem OR:hasB Tryz.prog 168=true:=by kernel_rfl
theorem OS:hasB Tryz.prog 170=true:=by kernel_rfl
theorem OT:hasB Tryz.prog 171=true:=by kernel_rfl
theorem OU:hasB Tryz.prog 172=true:=by kernel_rfl
theorem OV:hasB Tryz.prog 173=true:=by kernel_rfl
theorem OW:hasB Tryz.prog 185=true:=by kernel_rfl
theorem OX:hasB Tryz.prog 186=true:=by kernel_rfl
theorem OY:hasB Tryz.prog 192=true:=by kernel_rfl
attribute [push_cast] FQ FR FS FT FU FV FW FX FY bJ fY fZ
attribute [push_cast] FZ
attribute [push_cast] F0 F1 F4
attribute [push_cast] F5 F6 F7 F8 F9 GA GB GC GD
attribute [push_cast] GE GF GG GH GI GJ GK GL GM GN GO GP pJ
attribute [push_cast] GQ GR GS GT GU GV
attribute [push_cast] GW GX GY GZ G0 G1
attribute [push_cast] G2 G3 G4 pK pL pM cG
attribute [push_cast] G5 G6
attribute [push_cast] G7 G8
attribute [push_cast] G9 HA HB HC HD HE HF HG HH
attribute [push_cast] HI HJ HK HL HM HN
attribute [push_cast] HO HP HQ HR HS HT HU HV HW HX HY HZ H0
attribute [push_cast] H1 H2 H3 H4 H5 H6 H7 H9 IA IB IC
attribute [push_cast] pN ID IE IF IG IH II
attribute [push_cast] IJ IK IL IM IN IP IQ
attribute [push_cast] IS IT IU IV IW
attribute [push_cast] IX IY IZ I0 I1 I2 I3
attribute [push_cast] I4
attribute [push_cast] I5 I6 I7 I8 I9 pO pP pQ JA JB
attribute [push_cast] JC JD
attribute [push_cast] JE JF JG JH JI JJ
attribute [push_cast] JK JL JN JP
attribute [push_cast] k9 gA JQ iN
attribute [push_cast] JR JU JV JX JY JZ J0 J1
attribute [push_cast] pR pS J3 J4 J5 pT J6 J7 J8
attribute [push_cast] J9 KF
attribute [push_cast] hb8
attribute [push_cast] hb9 KG iO hb13 hb14 hb15 hb16 hb17 hb18 hb19 KH KI KK KM KN KP KQ KU KV KW KX KY KZ K0 K1 K2 K3 K4 K5 K6 K7 K8 K9 LA LC LD LE LF
attribute [push_cast] LG LH LI LJ LK LL LM LN LO LP LQ LR LU LV LY LZ L3 L4 L5 L6 L7 L8 L9 MA MC MD ME MF MG MH MI MJ MK ML MM
attribute [push_cast] MN MO MP MQ MR MS MT MU MV MW MX MY MZ M0 M1 M2 M3 M4 M5 M6 M7 M8 M9 NA NB NC ND NE NF NG NH NI NJ NK NL NM NN NO NP
attribute [push_cast] NQ NR NS NT NU NV NW NX NY NZ N0 N1 N2 N3 N4 N5 N6 N7 N8 N9 OA OB OC OD OE OF OG OH OI OJ OK OL OM ON OO OP OQ OR OS
attribute [push_cast] OT OU OV OW OX OY
abbrev pl5:Plan:=(.two (.reg []) (.two (.two (.reg [18]) (.two (.two (.reg [4]) .lf) .lf)) (.two (.reg [5,6]) (.two (.two (.reg [30]) (.two (.two (.reg [4]) .lf) .lf)) (.two (.reg [7,8]) (.two (.two (.reg [40]) (.two (.two (.reg [4]) .lf) .lf)) (.two (.reg [9]) (.two (.reg [10]) (.two (.two (.reg [11]) (.blk (.lop [7,11] (.two (.two (.reg [47]) (.two .lf .lf)) (.two (.blk (.two (.reg [12]) (.blk (.two (.reg [54]) (.two (.two (.reg [13]) (.two (.reg [14]) (.two (.two (.reg [79]) (.two (.two (.reg [4]) .lf) .lf)) (.two (.reg [15]) (.two (.two (.reg [87]) (.two (.two (.reg []) (.two (.reg []) (.reg []))) (.two (.reg [98]) (.two (.two (.reg []) (.reg [])) .lf)))) (.two (.drw [107] [1,3] [] [(2,[1])]) (.two (.two (.reg [4]) .lf) .lf))))))) (.two (.reg [108]) (.two (.reg []) (.two (.reg [116]) (.two (.two (.reg []) (.two (.reg [7,8]) (.two (.two (.reg [131]) (.two (.two (.reg [4]) .lf) .lf)) (.two (.reg [16]) (.two (.two (.reg [143]) (.two (.two (.reg [4]) .lf) .lf)) (.drw [] [2,3] [(2,[1])] [])))))) .lf))))))))) (.reg [11])))))) (.two (.reg [4]) .lf))))))))))
theorem ok5:okFn Tryz.f5 (Tryz.f5.body.getD .skip) pl5 2=true:=by kernel_rfl
abbrev rs5:List Nat:=[4]
abbrev pl8:Plan:=(.two (.reg []) (.two (.reg [1,2]) (.two (.two (.reg [12]) (.two (.two (.reg [0]) .lf) .lf)) (.two (.reg [3,4]) (.two (.two (.reg [51]) (.two (.two (.reg [0]) .lf) .lf)) (.two (.reg []) (.two (.reg [5,6]) (.two (.reg [0]) .lf))))))))
theorem ok8:okFn Tryz.f8 (Tryz.f8.body.getD .skip) pl8 0=true:=by kernel_rfl
abbrev rs8:List Nat:=[0]
abbrev pl9:Plan:=(.two (.reg []) (.two (.reg [4,5]) (.two (.two (.reg [18]) (.two (.two (.reg [2,3]) .lf) .lf)) (.two (.reg [2,3]) .lf))))
theorem ok9:okFn Tryz.f9 (Tryz.f9.body.getD .skip) pl9 1=true:=by kernel_rfl
abbrev rs9:List Nat:=[2,3]
abbrev pl10:Plan:=(.two (.reg []) (.two (.two (.reg [9]) (.two (.two (.reg [2]) .lf) .lf)) (.two (.two (.reg [3]) (.blk (.lop [3] (.two (.two (.reg [13]) (.two .lf .lf)) (.two (.blk (.two (.reg [4]) (.two (.two (.reg [45]) (.two (.two (.reg [2]) .lf) .lf)) (.two (.reg [5]) (.blk (.lop [5] (.two (.two (.reg [50]) (.two .lf .lf)) (.two (.blk (.two (.reg [6]) (.two (.reg [74]) (.two (.two (.reg [2]) .lf) .lf)))) (.reg [5]))))))))) (.reg [3])))))) (.two (.reg [2]) .lf))))
theorem OZ:okFn Tryz.f10 (Tryz.f10.body.getD .skip) pl10 1=true:=by kernel_rfl
abbrev rs10:List Nat:=[2]
abbrev pl11:Plan:=(.two (.reg []) (.two (.two (.reg [40]) (.two (.two (.reg [6,7]) .lf) .lf)) (.two (.two (.reg [42]) (.two (.two (.reg [6,7]) .lf) .lf)) (.two (.reg [8]) (.two (.reg [9]) (.two (.reg []) (.two (.two (.reg [10]) (.two (.reg [58]) (.two (.two (.reg [6,7]) .lf) .lf))) (.two (.two (.reg [10]) (.two (.reg [75]) (.two (.two (.reg [6,7]) .lf) .lf))) (.two (.reg [11]) (.two (.two (.reg [12,13]) (.two (.reg [86]) (.two (.reg [11]) .lf))) (.two (.two (.reg [99,100,101]) (.blk (.lop [11,101] (.two (.reg [102]) (.two (.two .lf .lf) (.two (.blk (.two (.reg [15]) (.two (.two (.reg [106]) (.two .lf .lf)) (.reg [11])))) (.reg [101]))))))) (.two (.two (.reg [121]) (.two (.two (.reg [6,7]) .lf) .lf)) (.two (.reg [6,7]) .lf)))))))))))))
theorem O0:okFn Tryz.f11 (Tryz.f11.body.getD .skip) pl11 3=true:=by kernel_rfl
abbrev rs11:List Nat:=[6,7]
abbrev pl13:Plan:=(.two (.reg []) (.two (.reg [2]) .lf))
theorem O1:okFn Tryz.f13 (Tryz.f13.body.getD .skip) pl13 1=true:=by kernel_rfl
abbrev rs13:List Nat:=[2]
abbrev pl14:Plan:=(.two (.reg [3]) (.two (.two (.reg [6]) (.blk (.two (.reg [7]) (.two (.two (.reg [4]) .lf) (.two (.reg [13]) (.two (.two (.reg [4]) .lf) (.two (.reg [19]) (.two (.two (.reg [4]) .lf) .lf)))))))) (.two (.reg [4]) .lf)))
theorem O2:okFn Tryz.f14 (Tryz.f14.body.getD .skip) pl14 2=true:=by kernel_rfl
abbrev rs14:List Nat:=[4]
abbrev pl15:Plan:=(.two (.reg [3]) (.two (.two (.reg [6]) (.blk (.two (.reg [7]) (.two (.two (.reg [4]) .lf) (.two (.reg [13]) (.two (.two (.reg [4]) .lf) (.two (.reg [19]) (.two (.two (.reg [4]) .lf) .lf)))))))) (.two (.reg [4]) .lf)))
theorem O3:okFn Tryz.f15 (Tryz.f15.body.getD .skip) pl15 2=true:=by kernel_rfl
abbrev rs15:List Nat:=[4]
abbrev pl16:Plan:=(.two (.reg [2,3]) (.two (.reg [4]) .lf))
theorem O4:okFn Tryz.f16 (Tryz.f16.body.getD .skip) pl16 2=true:=by kernel_rfl
abbrev rs16:List Nat:=[4]
abbrev pl17:Plan:=(.two (.reg [2]) (.two (.reg []) .lf))
theorem O5:okFn Tryz.f17 (Tryz.f17.body.getD .skip) pl17 1=true:=by kernel_rfl
abbrev pl18:Plan:=(.two (.reg []) (.two (.reg [2]) .lf))
theorem O6:okFn Tryz.f18 (Tryz.f18.body.getD .skip) pl18 1=true:=by kernel_rfl
abbrev rs18:List Nat:=[2]
abbrev pl19:Plan:=(.two (.reg []) (.two (.two (.reg [38]) (.two (.two (.reg [6,7]) .lf) .lf)) (.two (.two (.reg [40]) (.two (.two (.reg [6,7]) .lf) .lf)) (.two (.reg [8]) (.two (.two (.reg [47]) (.blk (.lop [47] (.two (.reg [48]) (.two (.two .lf .lf) (.two (.blk (.two (.reg [9]) (.two (.reg [10,11,12,13]) (.two (.two (.reg [59]) (.two (.two (.reg [6,7]) .lf) .lf)) (.two (.reg [69]) (.two (.reg []) .lf)))))) (.reg [47]))))))) (.two (.reg [6,7]) .lf))))))
theorem O7:okFn Tryz.f19 (Tryz.f19.body.getD .skip) pl19 3=true:=by kernel_rfl
abbrev rs19:List Nat:=[6,7]
abbrev pl20:Plan:=(.two (.reg []) (.two (.two (.reg [8]) (.two (.two (.reg [2,3]) .lf) .lf)) (.two (.drw [2,3] [0,5] [] [(2,[0]),(3,[0]),(4,[0]),(7,[0,5]),(8,[0,5]),(9,[0,5])]) .lf)))
theorem O8:okFn Tryz.f20 (Tryz.f20.body.getD .skip) pl20 1=true:=by kernel_rfl
abbrev rs20:List Nat:=[2,3]
abbrev pl21:Plan:=(.two (.reg [1]) (.two (.drw [2] [3,6,9] [] [(4,[3]),(5,[3]),(7,[3,6]),(8,[3,6])]) .lf))
theorem O9:okFn Tryz.f21 (Tryz.f21.body.getD .skip) pl21 1=true:=by kernel_rfl
abbrev rs21:List Nat:=[2]
abbrev pl22:Plan:=(.two (.reg []) (.two (.two (.reg [36]) (.two (.two (.reg [6,7]) .lf) .lf)) (.two (.reg [8]) (.two (.reg [9]) (.two (.two (.reg [46,47]) (.blk (.lop [9,47] (.two (.reg [48]) (.two (.two .lf .lf) (.two (.blk (.two (.reg [10]) (.two (.reg [11,12]) (.two (.two (.reg [59]) (.two (.two (.reg [6,7]) .lf) .lf)) (.reg [9]))))) (.reg [47]))))))) (.two (.reg [13,14]) (.two (.two (.reg [82]) (.two (.two (.reg [6,7]) .lf) .lf)) (.two (.reg []) (.two (.two (.reg [16]) (.two (.reg [105]) (.two (.two (.reg [6,7]) .lf) .lf))) (.two (.reg [6,7]) .lf))))))))))
theorem PA:okFn Tryz.f22 (Tryz.f22.body.getD .skip) pl22 3=true:=by kernel_rfl
abbrev rs22:List Nat:=[6,7]
abbrev pl23:Plan:=(.two (.reg []) (.two (.reg [3]) (.two (.reg [2]) .lf)))
theorem PB:okFn Tryz.f23 (Tryz.f23.body.getD .skip) pl23 1=true:=by kernel_rfl
abbrev rs23:List Nat:=[2]
abbrev pl24:Plan:=(.two (.reg [8]) (.two (.reg []) .lf))
theorem PC:okFn Tryz.f24 (Tryz.f24.body.getD .skip) pl24 2=true:=by kernel_rfl
abbrev rs24:List Nat:=[]
abbrev pl25:Plan:=(.two (.reg [3]) (.two (.reg []) (.reg [])))
theorem PD:okFn Tryz.f25 (Tryz.f25.body.getD .skip) pl25 2=true:=by kernel_rfl
abbrev rs25:List Nat:=[]
abbrev pl26:Plan:=(.two (.reg []) (.two (.reg [2]) .lf))
theorem PE:okFn Tryz.f26 (Tryz.f26.body.getD .skip) pl26 1=true:=by kernel_rfl
abbrev rs26:List Nat:=[2]
abbrev pl27:Plan:=(.two (.reg [1]) (.two (.two (.reg [6]) (.two (.two (.reg [2]) .lf) .lf)) (.two (.reg [2]) .lf)))
theorem PF:okFn Tryz.f27 (Tryz.f27.body.getD .skip) pl27 1=true:=by kernel_rfl
abbrev rs27:List Nat:=[2]
abbrev pl28:Plan:=(.two (.reg [2]) (.two (.reg []) .lf))
theorem PG:okFn Tryz.f28 (Tryz.f28.body.getD .skip) pl28 1=true:=by kernel_rfl
abbrev pl29:Plan:=(.two (.reg []) (.two (.reg [2]) .lf))
theorem PH:okFn Tryz.f29 (Tryz.f29.body.getD .skip) pl29 1=true:=by kernel_rfl
abbrev rs29:List Nat:=[2]
abbrev pl31:Plan:=(.two (.reg []) (.two (.two (.reg [21]) (.two (.two (.reg [4,5]) .lf) .lf)) (.two (.reg [6]) (.two (.two (.reg [31,32]) (.blk (.lop [32] (.two (.reg [33]) (.two (.two .lf .lf) (.two (.blk (.two (.reg [7]) (.drw [] [6,8] [(6,[1,2,3])] []))) (.reg [32]))))))) (.two (.reg [4,5]) .lf)))))
theorem PI:okFn Tryz.f31 (Tryz.f31.body.getD .skip) pl31 2=true:=by kernel_rfl
abbrev rs31:List Nat:=[4,5]
abbrev pl32:Plan:=(.two (.reg []) (.two (.two (.reg [5]) (.two (.two (.reg [2]) .lf) .lf)) (.two (.reg []) (.two (.reg [2]) .lf))))
theorem PJ:okFn Tryz.f32 (Tryz.f32.body.getD .skip) pl32 1=true:=by kernel_rfl
abbrev rs32:List Nat:=[2]
abbrev pl33:Plan:=(.two (.reg []) (.two (.two (.reg [7]) (.two (.two (.reg [2]) .lf) .lf)) (.two (.two (.reg [13]) (.two (.two (.reg [2]) .lf) .lf)) (.two (.reg [3]) (.two (.reg []) (.two (.reg [2]) .lf))))))
theorem PK:okFn Tryz.f33 (Tryz.f33.body.getD .skip) pl33 1=true:=by kernel_rfl
abbrev rs33:List Nat:=[2]
abbrev pl34:Plan:=(.two (.reg []) (.two (.two (.reg [9]) (.two (.two (.reg [4]) .lf) .lf)) (.two (.reg [5]) (.two (.two (.reg [19]) (.two (.two (.reg [4]) .lf) .lf)) (.two (.drw [4] [6,8] [] [(7,[6])]) .lf)))))
theorem PL:okFn Tryz.f34 (Tryz.f34.body.getD .skip) pl34 2=true:=by kernel_rfl
abbrev rs34:List Nat:=[4]
abbrev pl35:Plan:=(.two (.reg [3]) (.two (.two (.reg [8]) (.two (.two (.reg [4]) .lf) .lf)) (.two (.two (.drw [19] [1,8] [(8,[2])] [(4,[1]),(5,[1]),(6,[1]),(7,[1])]) (.two (.two (.reg [4]) .lf) .lf)) (.two (.drw [4] [6,8] [] [(7,[6])]) .lf))))
theorem PM:okFn Tryz.f35 (Tryz.f35.body.getD .skip) pl35 2=true:=by kernel_rfl
abbrev rs35:List Nat:=[4]
abbrev pl36:Plan:=(.two (.reg []) (.two (.two (.reg [6]) (.two (.two (.reg [2]) .lf) .lf)) (.two (.reg [2]) .lf)))
theorem PN:okFn Tryz.f36 (Tryz.f36.body.getD .skip) pl36 1=true:=by kernel_rfl
abbrev rs36:List Nat:=[2]
abbrev pl37:Plan:=(.two (.reg []) (.two (.two (.reg [10]) (.two (.two (.reg [4]) .lf) .lf)) (.two (.two (.reg [5]) (.blk (.lop [5] (.two (.two (.reg [14]) (.two .lf .lf)) (.two (.blk (.two (.two (.reg [32]) (.two (.two (.reg [4]) .lf) .lf)) (.two (.reg [6]) (.blk (.lop [6] (.two (.two (.reg [40]) (.two .lf .lf)) (.two (.blk (.two (.reg [66]) (.two (.two (.reg [4]) .lf) .lf))) (.reg [6])))))))) (.reg [5])))))) (.two (.reg [4]) .lf))))
theorem PO:okFn Tryz.f37 (Tryz.f37.body.getD .skip) pl37 2=true:=by kernel_rfl
abbrev rs37:List Nat:=[4]
abbrev pl38:Plan:=(.two (.reg []) (.two (.two (.reg [6]) (.two (.two (.reg [2]) .lf) .lf)) (.two (.two (.reg [3]) (.blk (.lop [3] (.two (.two (.reg [10]) (.two .lf .lf)) (.two (.blk (.two (.reg [18]) (.two (.two (.reg [2]) .lf) .lf))) (.reg [3])))))) (.two (.reg [2]) .lf))))
theorem PP:okFn Tryz.f38 (Tryz.f38.body.getD .skip) pl38 1=true:=by kernel_rfl
abbrev rs38:List Nat:=[2]
abbrev pl39:Plan:=(.two (.reg []) (.two (.two (.reg [3]) (.blk (.lop [3] (.two (.two (.reg [7]) (.two .lf .lf)) (.two (.blk (.two (.drw [20] [9] [] []) (.two (.two (.reg [2]) .lf) .lf))) (.reg [3])))))) (.two (.reg [2]) .lf)))
theorem PQ:okFn Tryz.f39 (Tryz.f39.body.getD .skip) pl39 1=true:=by kernel_rfl
abbrev rs39:List Nat:=[2]
abbrev pl40:Plan:=(.two (.reg []) (.two (.reg [2]) .lf))
theorem PR:okFn Tryz.f40 (Tryz.f40.body.getD .skip) pl40 1=true:=by kernel_rfl
abbrev rs40:List Nat:=[2]
abbrev pl41:Plan:=(.two (.reg []) (.two (.reg [2]) .lf))
theorem PS:okFn Tryz.f41 (Tryz.f41.body.getD .skip) pl41 1=true:=by kernel_rfl
abbrev rs41:List Nat:=[2]
abbrev pl42:Plan:=(.two (.reg [2]) (.two (.reg [4]) (.two (.reg [5]) (.two (.reg []) (.two (.reg []) (.two (.drw [3] [2,4] [(2,[0]),(4,[3])] []) .lf))))))
theorem PT:okFn Tryz.f42 (Tryz.f42.body.getD .skip) pl42 1=true:=by kernel_rfl
abbrev pl43:Plan:=(.two (.reg [2,4]) (.two (.reg [6]) (.two (.two (.reg [10]) (.blk (.two (.reg [12]) (.two (.drw [] [2,3,4] [(2,[0])] []) (.two (.reg [18]) (.two (.drw [] [2,3,4] [(2,[0])] []) (.two (.reg [24]) (.two (.drw [] [3,6] [(3,[0,1])] []) (.two (.reg [5]) .lf))))))))) (.two (.drw [5] [2,4] [(2,[0]),(4,[3])] []) .lf))))
theorem PU:okFn Tryz.f43 (Tryz.f43.body.getD .skip) pl43 2=true:=by kernel_rfl
abbrev pl44:Plan:=(.two (.reg []) (.two (.drw [5] [1,7] [] [(3,[1]),(4,[1]),(5,[1]),(6,[1])]) (.two (.two (.reg [17]) (.two (.two (.reg [4]) .lf) .lf)) (.two (.reg [6]) (.two (.reg []) (.two (.drw [4] [2,4] [] [(3,[2])]) .lf))))))
theorem PV:okFn Tryz.f44 (Tryz.f44.body.getD .skip) pl44 2=true:=by kernel_rfl
abbrev rs44:List Nat:=[4]
abbrev pl45:Plan:=(.two (.reg [3]) (.two (.two (.drw [15] [1,8] [(8,[2])] [(4,[1]),(5,[1]),(6,[1]),(7,[1])]) (.two (.two (.reg [4]) .lf) .lf)) (.two (.drw [4] [2,8,9] [] [(4,[2]),(5,[2]),(6,[2]),(7,[2])]) .lf)))
theorem PW:okFn Tryz.f45 (Tryz.f45.body.getD .skip) pl45 2=true:=by kernel_rfl
abbrev rs45:List Nat:=[4]
abbrev pl46:Plan:=(.two (.reg []) (.two (.two (.reg [9]) (.two (.two (.reg [2]) .lf) .lf)) (.two (.reg [3]) (.two (.reg []) (.two (.drw [2] [3,5] [] [(4,[3])]) .lf)))))
theorem PX:okFn Tryz.f46 (Tryz.f46.body.getD .skip) pl46 1=true:=by kernel_rfl
abbrev rs46:List Nat:=[2]
abbrev pl47:Plan:=(.two (.reg []) (.two (.two (.drw [13] [4] [] [(7,[4]),(8,[4]),(9,[4])]) (.two (.two (.reg [2]) .lf) .lf)) (.two (.reg []) (.two (.reg [2]) .lf))))
theorem PY:okFn Tryz.f47 (Tryz.f47.body.getD .skip) pl47 1=true:=by kernel_rfl
abbrev rs47:List Nat:=[2]
abbrev pl48:Plan:=(.two (.reg []) (.two (.two (.reg [10]) (.two (.two (.reg [4]) .lf) .lf)) (.two (.two (.reg [5]) (.blk (.lop [5] (.two (.two (.reg [14]) (.two .lf .lf)) (.two (.blk (.two (.drw [26] [8] [] []) (.two (.two (.reg [4]) .lf) .lf))) (.reg [5])))))) (.two (.reg [4]) .lf))))
theorem PZ:okFn Tryz.f48 (Tryz.f48.body.getD .skip) pl48 2=true:=by kernel_rfl
abbrev rs48:List Nat:=[4]
abbrev pl49:Plan:=(.two (.reg [2,3]) (.two (.reg [4]) .lf))
theorem P0:okFn Tryz.f49 (Tryz.f49.body.getD .skip) pl49 2=true:=by kernel_rfl
abbrev rs49:List Nat:=[4]
abbrev pl50:Plan:=(.two (.reg []) (.two (.drw [8,9] [6,7] [(6,[1,2,3])] []) (.two (.two (.reg [32]) (.two (.two (.reg [4,5,6,7]) .lf) .lf)) (.two (.reg [10,11]) (.two (.two (.reg [35,36,37]) (.blk (.lop [10,37] (.two (.reg [38]) (.two (.two .lf .lf) (.two (.blk (.two (.reg [13]) (.reg [10]))) (.reg [37]))))))) (.two (.two (.reg [48,49,50]) (.blk (.lop [11,50] (.two (.reg [51]) (.two (.two .lf .lf) (.two (.blk (.two (.reg [15]) (.reg [11]))) (.reg [50]))))))) (.two (.two (.reg [71]) (.two (.two (.reg [4,5,6,7]) .lf) .lf)) (.two (.reg [16]) (.two (.two (.reg [17]) (.blk (.lop [16,17] (.two (.two (.reg [75]) (.two .lf .lf)) (.two (.blk (.two (.drw [18,19] [6,9] [(6,[1,2,3])] []) (.two (.two (.reg [92]) (.two (.two (.reg [4,5,6,7]) .lf) .lf)) (.reg [16])))) (.reg [17])))))) (.two (.reg [16]) (.two (.reg [4,5,6,7]) .lf)))))))))))
theorem P1:okFn Tryz.f50 (Tryz.f50.body.getD .skip) pl50 2=true:=by kernel_rfl
abbrev rs50:List Nat:=[4,5,6,7]
abbrev pl51:Plan:=(.two (.reg []) (.two (.reg [5]) (.two (.two (.reg [6]) (.blk (.lop [5,6] (.two (.two (.reg [15]) (.two .lf .lf)) (.two (.blk (.reg [5])) (.reg [6])))))) (.two (.reg [4]) .lf))))
theorem P2:okFn Tryz.f51 (Tryz.f51.body.getD .skip) pl51 2=true:=by kernel_rfl
abbrev rs51:List Nat:=[4]
abbrev pl52:Plan:=(.two (.reg [3]) (.two (.reg [5]) (.two (.two (.reg [6]) (.blk (.lop [5,6] (.two (.two (.reg [19]) (.two .lf .lf)) (.two (.blk (.two (.reg [5]) (.two (.reg [5]) (.two (.reg [7]) (.blk (.lop [5,7] (.two (.two (.reg [49]) (.two .lf .lf)) (.two (.blk (.two (.reg [8]) (.drw [5] [3,6] [] [(4,[3]),(5,[3])]))) (.reg [7]))))))))) (.reg [6])))))) (.two (.reg [4]) .lf))))
theorem P3:okFn Tryz.f52 (Tryz.f52.body.getD .skip) pl52 2=true:=by kernel_rfl
abbrev rs52:List Nat:=[4]
abbrev pl53:Plan:=(.two (.reg []) (.two (.reg [5]) (.two (.blk (.lop [1,5] (.two (.two (.reg [10]) (.two .lf .lf)) (.blk (.two (.reg [5]) (.reg [1])))))) (.two (.reg [4]) .lf))))
theorem P4:okFn Tryz.f53 (Tryz.f53.body.getD .skip) pl53 2=true:=by kernel_rfl
abbrev rs53:List Nat:=[4]
abbrev pl54:Plan:=(.two (.reg []) (.two (.two (.reg [10]) (.two (.two (.reg [4,5]) .lf) .lf)) (.two (.two (.reg [14]) (.two (.two (.reg [4,5]) .lf) .lf)) (.two (.two (.reg [6]) (.blk (.lop [6] (.two (.two (.reg [22]) (.two .lf .lf)) (.two (.blk (.two (.reg [34]) (.two (.two (.reg [4,5]) .lf) .lf))) (.reg [6])))))) (.two (.reg [4,5]) .lf)))))
theorem P5:okFn Tryz.f54 (Tryz.f54.body.getD .skip) pl54 2=true:=by kernel_rfl
abbrev rs54:List Nat:=[4,5]
abbrev pl55:Plan:=(.two (.reg []) (.two (.two (.reg [8]) (.two (.two (.reg [2,3]) .lf) .lf)) (.two (.reg [4]) (.two (.reg [5,6]) (.two (.two (.reg [33]) (.two (.two (.reg [2,3]) .lf) .lf)) (.two (.reg [2,3]) .lf))))))
theorem P6:okFn Tryz.f55 (Tryz.f55.body.getD .skip) pl55 1=true:=by kernel_rfl
abbrev rs55:List Nat:=[2,3]
abbrev pl56:Plan:=(.two (.reg []) (.two (.reg [4]) (.two (.reg [5]) (.two (.blk (.lop [4] (.two (.two (.reg [11]) (.two .lf .lf)) (.blk (.two (.reg [6]) (.two (.two (.reg [16]) (.two (.two (.reg [2,3]) .lf) .lf)) (.reg [4]))))))) (.two (.reg [2,3]) .lf)))))
theorem P7:okFn Tryz.f56 (Tryz.f56.body.getD .skip) pl56 1=true:=by kernel_rfl
abbrev rs56:List Nat:=[2,3]
abbrev pl57:Plan:=(.two (.reg [4]) (.two (.two (.reg [13,14,15]) (.blk (.lop [15] (.two (.reg [16]) (.two (.two .lf .lf) (.two (.blk (.two (.reg [5,6]) (.two (.reg [22]) (.two (.reg []) .lf)))) (.reg [15]))))))) (.two (.two (.reg [30]) (.blk (.lop [] (.two (.reg [32]) (.two (.two .lf .lf) (.blk (.two (.reg [7,8]) (.reg [])))))))) (.reg []))))
theorem P8:okFn Tryz.f57 (Tryz.f57.body.getD .skip) pl57 2=true:=by kernel_rfl
abbrev rs57:List Nat:=[]
abbrev pl58:Plan:=(.two (.reg []) (.two (.reg [3]) .lf))
theorem P9:okFn Tryz.f58 (Tryz.f58.body.getD .skip) pl58 2=true:=by kernel_rfl
abbrev rs58:List Nat:=[3]
abbrev pl59:Plan:=(.two (.reg [1,2]) (.two (.reg [3]) (.two (.reg []) .lf)))
theorem QA:okFn Tryz.f59 (Tryz.f59.body.getD .skip) pl59 1=true:=by kernel_rfl
abbrev pl60:Plan:=(.two (.reg []) (.two (.reg [5]) (.two (.two (.reg [6]) (.blk (.lop [5,6] (.two (.two (.reg [11]) (.two .lf .lf)) (.two (.blk (.two (.reg [20]) (.two (.reg [5]) .lf))) (.reg [6])))))) (.two (.reg [4]) .lf))))
theorem QB:okFn Tryz.f60 (Tryz.f60.body.getD .skip) pl60 2=true:=by kernel_rfl
abbrev rs60:List Nat:=[4]
abbrev pl61:Plan:=(.two (.reg []) (.two (.two (.reg [13]) (.two (.reg []) .lf)) (.two (.two (.reg [20]) (.two (.two (.reg [2]) .lf) .lf)) (.two (.two (.reg [24]) (.two (.reg []) .lf)) (.two (.reg [2]) .lf)))))
theorem QC:okFn Tryz.f61 (Tryz.f61.body.getD .skip) pl61 1=true:=by kernel_rfl
abbrev rs61:List Nat:=[2]
abbrev pl62:Plan:=(.two (.reg []) (.two (.reg [2]) .lf))
theorem QD:okFn Tryz.f62 (Tryz.f62.body.getD .skip) pl62 1=true:=by kernel_rfl
abbrev rs62:List Nat:=[2]
abbrev pl63:Plan:=(.two (.reg [4]) (.two (.reg [7]) (.two (.reg []) (.two (.drw [8] [5,6,7] [(5,[1,2,3]),(6,[1,2,3])] []) (.two (.two (.reg [23]) (.two (.reg [8]) (.reg []))) (.two (.two (.reg [31]) (.two (.reg []) .lf)) (.two (.reg [6]) .lf)))))))
theorem QE:okFn Tryz.f63 (Tryz.f63.body.getD .skip) pl63 3=true:=by kernel_rfl
abbrev rs63:List Nat:=[6]
abbrev pl64:Plan:=(.two (.reg []) (.reg []))
theorem QF:okFn Tryz.f64 (Tryz.f64.body.getD .skip) pl64 2=true:=by kernel_rfl
abbrev rs64:List Nat:=[]
abbrev pl65:Plan:=(.two (.blk (.lop [1] (.two (.two (.reg [5]) (.two .lf .lf)) (.two (.blk (.reg [])) (.reg [1]))))) (.reg []))
theorem QG:okFn Tryz.f65 (Tryz.f65.body.getD .skip) pl65 2=true:=by kernel_rfl
abbrev rs65:List Nat:=[]
abbrev pl66:Plan:=(.two (.reg []) (.two (.reg [5,6]) (.two (.reg [4]) .lf)))
theorem QH:okFn Tryz.f66 (Tryz.f66.body.getD .skip) pl66 2=true:=by kernel_rfl
abbrev rs66:List Nat:=[4]
abbrev pl67:Plan:=(.two (.reg [2,4]) (.two (.reg []) (.two (.reg []) .lf)))
theorem QI:okFn Tryz.f67 (Tryz.f67.body.getD .skip) pl67 2=true:=by kernel_rfl
abbrev pl68:Plan:=(.two (.reg []) (.reg []))
theorem QJ:okFn Tryz.f68 (Tryz.f68.body.getD .skip) pl68 2=true:=by kernel_rfl
abbrev rs68:List Nat:=[]
abbrev pl69:Plan:=(.two (.reg []) (.two (.reg [11,12,13]) (.blk (.lop [13] (.two (.reg [14]) (.two (.two .lf .lf) (.two (.blk (.two (.reg [5]) (.reg []))) (.reg [13]))))))))
theorem QK:okFn Tryz.f69 (Tryz.f69.body.getD .skip) pl69 2=true:=by kernel_rfl
abbrev rs69:List Nat:=[]
abbrev pl70:Plan:=(.two (.reg [1]) (.two (.two (.reg [6]) (.two (.two (.reg [2]) .lf) .lf)) (.two (.reg [2]) .lf)))
theorem QL:okFn Tryz.f70 (Tryz.f70.body.getD .skip) pl70 1=true:=by kernel_rfl
abbrev rs70:List Nat:=[2]
abbrev pl71:Plan:=(.two (.reg [2,3,4]) (.two (.reg []) (.two (.two (.drw [16] [1,5] [(5,[2])] [(3,[1]),(4,[1])]) (.two (.reg []) .lf)) (.two (.reg []) .lf))))
theorem QM:okFn Tryz.f71 (Tryz.f71.body.getD .skip) pl71 2=true:=by kernel_rfl
abbrev pl72:Plan:=(.two (.reg []) (.reg []))
theorem QN:okFn Tryz.f72 (Tryz.f72.body.getD .skip) pl72 2=true:=by kernel_rfl
abbrev rs72:List Nat:=[]
abbrev pl73:Plan:=(.two (.reg [3]) (.two (.reg []) (.two (.two (.reg [15,16,17]) (.blk (.lop [17] (.two (.reg [18]) (.two (.two .lf .lf) (.two (.blk (.two (.reg [5]) (.two (.reg []) (.two (.reg []) (.two (.reg [33,34,35]) (.blk (.lop [35] (.two (.reg [36]) (.two (.two .lf .lf) (.two (.blk (.two (.reg [7]) (.two (.reg []) (.reg [])))) (.reg [35]))))))))))) (.reg [17]))))))) (.reg []))))
theorem QO:okFn Tryz.f73 (Tryz.f73.body.getD .skip) pl73 2=true:=by kernel_rfl
abbrev rs73:List Nat:=[]
abbrev pl74:Plan:=(.two (.reg [3]) (.two (.reg [5]) (.two (.two (.reg [16]) (.two (.two (.reg [4]) .lf) .lf)) (.two (.two (.reg [6]) (.two (.reg [23]) (.blk (.two (.reg [27]) (.two .lf (.two (.reg [29]) (.two (.two (.reg [4]) .lf) (.two (.reg [4]) .lf)))))))) (.two (.reg [4]) .lf)))))
theorem QP:okFn Tryz.f74 (Tryz.f74.body.getD .skip) pl74 2=true:=by kernel_rfl
abbrev rs74:List Nat:=[4]
abbrev pl75:Plan:=(.two (.reg [1]) (.two (.two (.reg [3]) (.blk (.lop [3] (.two (.two (.reg [10]) (.two .lf .lf)) (.two (.blk (.two (.reg [25]) (.two (.two (.reg [2]) .lf) .lf))) (.reg [3])))))) (.two (.two (.reg [4]) (.blk (.lop [4] (.two (.two (.reg [30]) (.two .lf .lf)) (.two (.blk (.two (.reg [44]) (.two (.two (.reg [2]) .lf) .lf))) (.reg [4])))))) (.two (.reg [2]) .lf))))
theorem QQ:okFn Tryz.f75 (Tryz.f75.body.getD .skip) pl75 1=true:=by kernel_rfl
abbrev rs75:List Nat:=[2]
abbrev pl76:Plan:=(.two (.reg [2,3]) (.two (.two (.reg [11]) (.two (.two (.reg [4]) .lf) .lf)) (.two (.two (.reg [22]) (.two (.two (.reg [4]) .lf) .lf)) (.two (.drw [5,6] [1,4] [(4,[2])] [(3,[1])]) (.two (.two (.reg [37]) (.two (.two (.reg [4]) .lf) .lf)) (.two (.reg [4]) .lf))))))
theorem QR:okFn Tryz.f76 (Tryz.f76.body.getD .skip) pl76 2=true:=by kernel_rfl
abbrev rs76:List Nat:=[4]
abbrev pl77:Plan:=(.two (.reg []) (.two (.reg [2]) .lf))
theorem QS:okFn Tryz.f77 (Tryz.f77.body.getD .skip) pl77 1=true:=by kernel_rfl
abbrev rs77:List Nat:=[2]
abbrev pl78:Plan:=(.two (.reg []) (.two (.reg [3]) (.two (.two (.reg [7]) (.two (.two (.reg []) (.two (.reg [2]) .lf)) .lf)) (.two (.reg [2]) .lf))))
theorem QT:okFn Tryz.f78 (Tryz.f78.body.getD .skip) pl78 1=true:=by kernel_rfl
abbrev rs78:List Nat:=[2]
abbrev pl79:Plan:=(.two (.reg [2]) (.two (.reg [3]) (.two (.two (.reg [4]) (.blk (.lop [4] (.two (.two (.reg [19]) (.two .lf .lf)) (.two (.blk (.two (.reg [5,6]) (.two (.two (.reg [29]) (.two (.reg []) .lf)) (.two (.reg [7]) (.two (.two (.reg [8]) (.blk (.lop [8] (.two (.two (.reg [42]) (.two .lf .lf)) (.two (.blk (.two (.reg [9]) (.two (.reg []) (.reg [])))) (.reg [8])))))) (.reg [])))))) (.reg [4])))))) (.two (.reg []) (.two (.reg []) .lf)))))
theorem QU:okFn Tryz.f79 (Tryz.f79.body.getD .skip) pl79 1=true:=by kernel_rfl
abbrev pl80:Plan:=(.two (.reg []) (.two (.reg [3]) (.two (.two (.reg [4]) (.blk (.lop [4] (.two (.two (.reg [10]) (.two .lf .lf)) (.two (.blk (.two (.drw [23] [9] [] []) (.two (.reg []) .lf))) (.reg [4])))))) (.two (.reg [2]) .lf))))
theorem QV:okFn Tryz.f80 (Tryz.f80.body.getD .skip) pl80 1=true:=by kernel_rfl
abbrev rs80:List Nat:=[2]
abbrev pl81:Plan:=(.two (.reg []) (.two (.two (.reg [12]) (.two (.two (.reg [2]) .lf) .lf)) (.two (.reg [2]) .lf)))
theorem QW:okFn Tryz.f81 (Tryz.f81.body.getD .skip) pl81 1=true:=by kernel_rfl
abbrev rs81:List Nat:=[2]
abbrev pl82:Plan:=(.two (.reg []) (.two (.two (.reg [8]) (.two (.two (.reg [2]) .lf) .lf)) (.two (.reg [3,4,5]) (.two (.two (.reg [16]) (.two (.two (.reg []) (.two (.reg [2]) .lf)) .lf)) (.two (.reg []) (.two (.reg [2]) .lf))))))
theorem pU:okFn Tryz.f82 (Tryz.f82.body.getD .skip) pl82 1=true:=by kernel_rfl
abbrev rs82:List Nat:=[2]
abbrev pl83:Plan:=(.two (.reg []) (.two (.reg [3]) (.two (.two (.reg [4]) (.blk (.lop [3,4] (.two (.two (.reg [10]) (.two .lf .lf)) (.two (.blk (.two (.two (.reg [18]) (.two .lf .lf)) (.two (.reg [3]) (.two (.reg [5]) (.blk (.lop [5] (.two (.two (.drw [43] [12] [] []) (.two .lf .lf)) (.two (.blk (.drw [] [15,17] [] [])) (.reg [5]))))))))) (.reg [4])))))) (.two (.reg [2]) .lf))))
theorem QX:okFn Tryz.f83 (Tryz.f83.body.getD .skip) pl83 1=true:=by kernel_rfl
abbrev rs83:List Nat:=[2]
abbrev pl84:Plan:=(.two (.reg []) (.two (.reg [4]) .lf))
theorem QY:okFn Tryz.f84 (Tryz.f84.body.getD .skip) pl84 2=true:=by kernel_rfl
abbrev rs84:List Nat:=[4]
abbrev pl85:Plan:=(.two (.reg [5]) (.two (.reg [7]) (.two (.two (.drw [23] [1] [] [(3,[1]),(4,[1]),(5,[1])]) (.two (.two (.drw [] [6,9] [(6,[3])] []) (.two (.reg [6]) .lf)) .lf)) (.two (.two (.drw [39] [1] [] [(4,[1]),(5,[1]),(6,[1])]) (.two (.two (.reg [6]) .lf) .lf)) (.two (.drw [] [5,8] [(5,[2])] []) (.two (.reg [6]) .lf))))))
theorem QZ:okFn Tryz.f85 (Tryz.f85.body.getD .skip) pl85 3=true:=by kernel_rfl
abbrev rs85:List Nat:=[6]
abbrev pl86:Plan:=(.two (.reg []) (.two (.reg [2]) .lf))
theorem Q0:okFn Tryz.f86 (Tryz.f86.body.getD .skip) pl86 1=true:=by kernel_rfl
abbrev rs86:List Nat:=[2]
abbrev pl87:Plan:=(.two (.reg [1]) (.two (.reg [2]) .lf))
theorem Q1:okFn Tryz.f87 (Tryz.f87.body.getD .skip) pl87 1=true:=by kernel_rfl
abbrev rs87:List Nat:=[2]
abbrev pl88:Plan:=(.two (.reg [1]) (.two (.reg [2]) .lf))
theorem Q2:okFn Tryz.f88 (Tryz.f88.body.getD .skip) pl88 1=true:=by kernel_rfl
abbrev rs88:List Nat:=[2]
abbrev pl89:Plan:=(.two (.reg [2,3,4]) (.two (.reg []) (.two (.two (.drw [18] [1,5] [(5,[2])] [(3,[1]),(4,[1])]) (.two (.reg []) .lf)) (.two (.reg []) .lf))))
theorem Q3:okFn Tryz.f89 (Tryz.f89.body.getD .skip) pl89 2=true:=by kernel_rfl
abbrev pl90:Plan:=(.two (.reg []) (.two (.reg [2]) .lf))
theorem Q4:okFn Tryz.f90 (Tryz.f90.body.getD .skip) pl90 1=true:=by kernel_rfl
abbrev rs90:List Nat:=[2]
abbrev pl91:Plan:=(.two (.reg [2,3]) (.two (.drw [4] [1,4] [(4,[2])] [(3,[1])]) .lf))
theorem Q5:okFn Tryz.f91 (Tryz.f91.body.getD .skip) pl91 2=true:=by kernel_rfl
abbrev rs91:List Nat:=[4]
abbrev pl92:Plan:=(.two (.reg []) (.two (.two (.reg [10]) (.two (.two (.reg [4]) .lf) .lf)) (.two (.two (.reg [5]) (.blk (.lop [5] (.two (.two (.reg [14]) (.two .lf .lf)) (.two (.blk (.two (.drw [26] [8] [] []) (.two (.two (.reg [4]) .lf) .lf))) (.reg [5])))))) (.two (.reg [4]) .lf))))
theorem Q6:okFn Tryz.f92 (Tryz.f92.body.getD .skip) pl92 2=true:=by kernel_rfl
abbrev rs92:List Nat:=[4]
abbrev pl93:Plan:=(.two (.reg []) (.two (.drw [4] [] [] []) .lf))
theorem Q7:okFn Tryz.f93 (Tryz.f93.body.getD .skip) pl93 2=true:=by kernel_rfl
abbrev rs93:List Nat:=[4]
abbrev pl94:Plan:=(.two (.reg []) (.two (.drw [2] [9] [(9,[1,2,3,4])] []) .lf))
theorem Q8:okFn Tryz.f94 (Tryz.f94.body.getD .skip) pl94 1=true:=by kernel_rfl
abbrev rs94:List Nat:=[2]
abbrev pl95:Plan:=(.two (.reg []) (.two (.reg [4]) .lf))
theorem Q9:okFn Tryz.f95 (Tryz.f95.body.getD .skip) pl95 2=true:=by kernel_rfl
abbrev rs95:List Nat:=[4]
abbrev pl96:Plan:=(.two (.reg []) (.two (.reg [7]) (.two (.reg [8]) (.two (.reg []) (.two (.reg [6]) .lf)))))
theorem RA:okFn Tryz.f96 (Tryz.f96.body.getD .skip) pl96 3=true:=by kernel_rfl
abbrev rs96:List Nat:=[6]
abbrev pl97:Plan:=(.two (.reg []) (.two (.reg [4]) .lf))
theorem RB:okFn Tryz.f97 (Tryz.f97.body.getD .skip) pl97 2=true:=by kernel_rfl
abbrev rs97:List Nat:=[4]
abbrev pl98:Plan:=(.two (.reg [1]) (.two (.drw [2] [1,4] [] [(2,[1]),(3,[1])]) .lf))
theorem RC:okFn Tryz.f98 (Tryz.f98.body.getD .skip) pl98 1=true:=by kernel_rfl
abbrev rs98:List Nat:=[2]
abbrev pl99:Plan:=(.two (.reg [1]) (.two (.reg [3]) (.two (.drw [3] [4,8,12] [] [(5,[4]),(6,[4]),(7,[4]),(9,[4,8]),(10,[4,8]),(11,[4,8])]) (.two (.reg [3]) (.two (.two (.reg [4]) (.blk (.lop [3,4] (.two (.two (.reg [29]) (.two .lf .lf)) (.two (.blk (.drw [3] [7,14,21] [] [(8,[7]),(9,[7]),(11,[7]),(12,[7]),(13,[7]),(15,[7,14]),(16,[7,14]),(18,[7,14]),(19,[7,14]),(20,[7,14])])) (.reg [4])))))) (.two (.drw [3] [3,6] [] [(4,[3]),(5,[3])]) (.two (.drw [2] [3,6] [] [(4,[3]),(5,[3])]) .lf)))))))
theorem RD:okFn Tryz.f99 (Tryz.f99.body.getD .skip) pl99 1=true:=by kernel_rfl
abbrev rs99:List Nat:=[2]
abbrev pl100:Plan:=(.two (.reg []) (.two (.two (.reg [6]) (.two (.two (.reg [4]) .lf) .lf)) (.two (.reg [4]) .lf)))
theorem RE:okFn Tryz.f100 (Tryz.f100.body.getD .skip) pl100 2=true:=by kernel_rfl
abbrev rs100:List Nat:=[4]
abbrev pl101:Plan:=(.two (.reg []) (.two (.reg [4]) .lf))
theorem RF:okFn Tryz.f101 (Tryz.f101.body.getD .skip) pl101 2=true:=by kernel_rfl
abbrev rs101:List Nat:=[4]
abbrev pl102:Plan:=(.two (.reg []) (.two (.reg [5]) (.two (.reg []) (.two (.reg [4]) .lf))))
theorem RG:okFn Tryz.f102 (Tryz.f102.body.getD .skip) pl102 2=true:=by kernel_rfl
abbrev rs102:List Nat:=[4]
abbrev pl103:Plan:=(.two (.reg []) (.two (.two (.reg [5,6]) (.blk (.lop [6] (.two (.reg [7]) (.two (.two .lf .lf) (.two (.blk (.two (.reg [3]) (.two (.reg [13]) (.two (.two (.reg [2]) .lf) .lf)))) (.reg [6]))))))) (.two (.reg [2]) .lf)))
theorem RH:okFn Tryz.f103 (Tryz.f103.body.getD .skip) pl103 1=true:=by kernel_rfl
abbrev rs103:List Nat:=[2]
abbrev pl104:Plan:=(.two (.reg []) (.two (.reg [2]) .lf))
theorem RI:okFn Tryz.f104 (Tryz.f104.body.getD .skip) pl104 1=true:=by kernel_rfl
abbrev rs104:List Nat:=[2]
abbrev pl105:Plan:=(.two (.reg []) (.two (.reg [2]) .lf))
theorem RJ:okFn Tryz.f105 (Tryz.f105.body.getD .skip) pl105 1=true:=by kernel_rfl
abbrev rs105:List Nat:=[2]
abbrev pl106:Plan:=(.two (.reg []) (.two (.reg [2]) .lf))
theorem RK:okFn Tryz.f106 (Tryz.f106.body.getD .skip) pl106 1=true:=by kernel_rfl
abbrev rs106:List Nat:=[2]
abbrev pl107:Plan:=(.two (.reg []) (.two (.drw [2] [] [] []) .lf))
theorem RL:okFn Tryz.f107 (Tryz.f107.body.getD .skip) pl107 1=true:=by kernel_rfl
abbrev rs107:List Nat:=[2]
abbrev pl108:Plan:=(.two (.reg []) (.two (.two (.reg [8]) (.two (.two (.reg [2]) .lf) .lf)) (.two (.reg [3,4,5]) (.two (.two (.reg [28]) (.two (.two (.reg []) (.two (.reg [2]) .lf)) .lf)) (.two (.reg []) (.two (.drw [2] [0,11] [] [(2,[0]),(3,[0]),(4,[0]),(7,[0]),(8,[0]),(9,[0]),(10,[0])]) .lf))))))
theorem RM:okFn Tryz.f108 (Tryz.f108.body.getD .skip) pl108 1=true:=by kernel_rfl
abbrev rs108:List Nat:=[2]
abbrev pl109:Plan:=(.two (.reg [1]) (.two (.reg [3]) (.two (.reg []) (.two (.reg []) (.two (.reg []) (.two (.reg [2]) .lf))))))
theorem RN:okFn Tryz.f109 (Tryz.f109.body.getD .skip) pl109 1=true:=by kernel_rfl
abbrev rs109:List Nat:=[2]
abbrev pl110:Plan:=(.two (.reg [3]) (.two (.two (.reg [5]) (.blk (.lop [5] (.two (.two (.reg [9]) (.two .lf .lf)) (.two (.blk (.two (.drw [18] [5] [] []) (.two (.two (.reg [4]) .lf) .lf))) (.reg [5])))))) (.two (.reg [4]) .lf)))
theorem RO:okFn Tryz.f110 (Tryz.f110.body.getD .skip) pl110 2=true:=by kernel_rfl
abbrev rs110:List Nat:=[4]
abbrev pl111:Plan:=(.two (.reg []) (.two (.two (.reg [14]) (.two (.two (.reg [4]) .lf) .lf)) (.two (.two (.reg [17]) (.two (.two (.reg [4]) .lf) .lf)) (.two (.reg [5]) (.two (.two (.reg [18,19,20]) (.blk (.lop [20] (.two (.reg [21]) (.two (.two .lf .lf) (.two (.blk (.two (.reg [7]) (.reg []))) (.reg [20]))))))) (.two (.reg [8]) (.two (.two (.drw [40] [] [] []) (.two (.two (.reg [4]) .lf) .lf)) (.two (.drw [9] [8,13,15] [] [(10,[8]),(11,[8]),(12,[8])]) (.two (.reg [10]) (.two (.two (.reg [11]) (.blk (.lop [11] (.two (.two (.reg [74]) (.two .lf .lf)) (.two (.blk (.two (.reg [93]) (.two (.two (.reg [4]) .lf) .lf))) (.reg [11])))))) (.two (.two (.reg [103]) (.two (.two (.reg [4]) .lf) .lf)) (.two (.reg []) (.two (.reg [4]) .lf)))))))))))))
theorem RP:okFn Tryz.f111 (Tryz.f111.body.getD .skip) pl111 2=true:=by kernel_rfl
abbrev rs111:List Nat:=[4]
abbrev pl112:Plan:=(.two (.reg []) (.two (.reg [2]) .lf))
theorem RQ:okFn Tryz.f112 (Tryz.f112.body.getD .skip) pl112 1=true:=by kernel_rfl
abbrev rs112:List Nat:=[2]
abbrev pl113:Plan:=(.two (.reg []) (.two (.two (.reg [6]) (.two (.reg []) .lf)) (.two (.reg [4]) .lf)))
theorem RR:okFn Tryz.f113 (Tryz.f113.body.getD .skip) pl113 2=true:=by kernel_rfl
abbrev rs113:List Nat:=[4]
abbrev pl114:Plan:=(.two (.reg []) (.two (.reg [3]) (.two (.two (.reg [9,10,11]) (.blk (.lop [11] (.two (.reg [12]) (.two (.two .lf .lf) (.two (.blk (.two (.reg [4,5]) (.reg []))) (.reg [11]))))))) (.two (.reg []) (.two (.reg [2]) .lf)))))
theorem RS:okFn Tryz.f114 (Tryz.f114.body.getD .skip) pl114 1=true:=by kernel_rfl
abbrev rs114:List Nat:=[2]
abbrev pl115:Plan:=(.two (.reg []) (.two (.reg [5]) (.two (.two (.reg [12]) (.two (.two (.reg [4]) .lf) .lf)) (.two (.two (.reg [6]) (.blk (.lop [5,6] (.two (.two (.reg [19]) (.two .lf .lf)) (.two (.blk (.two (.reg [7]) (.two (.reg [29]) (.two (.two (.reg []) (.reg [5])) .lf)))) (.reg [6])))))) (.two (.reg []) (.two (.reg [4]) .lf))))))
theorem RT:okFn Tryz.f115 (Tryz.f115.body.getD .skip) pl115 2=true:=by kernel_rfl
abbrev rs115:List Nat:=[4]
abbrev pl116:Plan:=(.two (.reg [2]) (.two (.reg [5]) (.two (.reg [3]) .lf)))
theorem RU:okFn Tryz.f116 (Tryz.f116.body.getD .skip) pl116 2=true:=by kernel_rfl
abbrev rs116:List Nat:=[3]
abbrev pl117:Plan:=(.two (.reg [4]) (.two (.reg [8]) (.two (.reg [9,10]) (.two (.blk (.lop [9,10] (.two (.two (.reg [17]) (.two .lf .lf)) (.blk (.two (.reg [11]) (.two (.drw [31] [6] [] []) (.two (.reg [9]) (.reg [10])))))))) (.two (.drw [6,7] [11] [] []) .lf)))))
theorem RV:okFn Tryz.f117 (Tryz.f117.body.getD .skip) pl117 3=true:=by kernel_rfl
abbrev rs117:List Nat:=[6,7]
abbrev pl118:Plan:=(.two (.reg [2,3]) (.two (.drw [4] [4,9,11,14,16,17,18] [(14,[12])] [(5,[4]),(6,[4]),(7,[4]),(8,[4]),(10,[4,9]),(13,[4,9,11])]) .lf))
theorem RX:okFn Tryz.f118 (Tryz.f118.body.getD .skip) pl118 2=true:=by kernel_rfl
abbrev rs118:List Nat:=[4]
abbrev pl119:Plan:=(.two (.reg []) (.two (.reg [4]) .lf))
theorem RY:okFn Tryz.f119 (Tryz.f119.body.getD .skip) pl119 2=true:=by kernel_rfl
abbrev rs119:List Nat:=[4]
abbrev pl120:Plan:=(.two (.reg []) (.reg []))
theorem RZ:okFn Tryz.f120 (Tryz.f120.body.getD .skip) pl120 2=true:=by kernel_rfl
abbrev rs120:List Nat:=[]
abbrev pl121:Plan:=(.two (.reg [1]) (.two (.reg [3]) (.two (.reg []) (.two (.reg []) (.two (.reg [2]) .lf)))))
theorem R0:okFn Tryz.f121 (Tryz.f121.body.getD .skip) pl121 1=true:=by kernel_rfl
abbrev rs121:List Nat:=[2]
abbrev pl122:Plan:=(.two (.reg [1]) (.two (.reg [3]) (.two (.reg [4]) (.two (.reg [5]) (.two (.reg []) (.two (.reg []) (.two (.reg []) (.two (.reg []) (.two (.reg []) (.two (.two (.reg [32,33,34]) (.blk (.lop [34] (.two (.reg [35]) (.two (.two .lf .lf) (.two (.blk (.two (.reg [7]) (.two (.reg []) (.two (.reg []) (.reg []))))) (.reg [34]))))))) (.two (.reg []) (.two (.reg []) (.two (.reg []) (.two (.reg []) (.two (.reg [2]) .lf)))))))))))))))
theorem R1:okFn Tryz.f122 (Tryz.f122.body.getD .skip) pl122 1=true:=by kernel_rfl
abbrev rs122:List Nat:=[2]
abbrev pl123:Plan:=(.reg [])
theorem R2:okFn Tryz.f123 (Tryz.f123.body.getD .skip) pl123 2=true:=by kernel_rfl
abbrev rs123:List Nat:=[]
abbrev pl124:Plan:=(.two (.reg []) (.two (.blk (.two (.reg [9]) (.two (.two (.reg [4]) .lf) (.two (.reg [14]) (.two (.two (.reg [4]) .lf) .lf))))) (.two (.reg [5]) (.two (.two (.reg [38]) (.two (.reg [5]) .lf)) (.two (.reg [6]) (.two (.two (.alt 124 6 20 [64,65,66]
 ⟨#[{ dst := some 42, op := Go.Op.move (Go.Operand.tmp 6), type := 3, pos := "checkpoint.go:138", after := #[], guard := none },
  { dst := some 43, op := Go.Op.move (Go.Operand.tmp 0), type := 52, pos := "checkpoint.go:138", after := #[], guard := none },
  { dst := some 44, op := Go.Op.nilCheck (Go.Operand.tmp 43), type := 0, pos := "checkpoint.go:138", after := #[{ on := 1, ground := Go.Ground.data }], guard := none },
  { dst := some 45, op := Go.Op.fieldAddr 100 (Go.Operand.tmp 44) 0, type := 0, pos := "checkpoint.go:138", after := #[{ on := 2, ground := Go.Ground.data }], guard := none },
  { dst := some 46, op := Go.Op.load 24 (Go.Operand.tmp 45), type := 24, pos := "checkpoint.go:138", after := #[{ on := 3, ground := Go.Ground.data }], guard := none },
  { dst := some 47, op := Go.Op.call { callee := Go.Callee.value (Go.Operand.func 13), args := #[Go.Operand.tmp 46], argTypes := #[24] }, type := 3, pos := "checkpoint.go:141", after := #[{ on := 4, ground := Go.Ground.data }], guard := none },
  { dst := some 48, op := Go.Op.makeSlice 55 (Go.Operand.tmp 47) (Go.Operand.tmp 47), type := 55, pos := "checkpoint.go:138", after := #[{ on := 5, ground := Go.Ground.data }, { on := 5, ground := Go.Ground.data }], guard := none },
  { dst := some 49, op := Go.Op.build 203 #[(0, Go.Operand.tmp 42), (1, Go.Operand.tmp 48)], type := 203, pos := "checkpoint.go:138", after := #[{ on := 0, ground := Go.Ground.data }, { on := 6, ground := Go.Ground.data }], guard := none },
  { dst := some 50, op := Go.Op.move (Go.Operand.tmp 6), type := 3, pos := "checkpoint.go:138", after := #[], guard := none },
  { dst := some 51, op := Go.Op.binOp Go.BinOp.add 3 (Go.Operand.tmp 50) (Go.Operand.const (Go.Value.int Go.IntKind.i64 1)) 3, type := 3, pos := "checkpoint.go:138", after := #[{ on := 8, ground := Go.Ground.data }], guard := none },
  { dst := some 52, op := Go.Op.move (Go.Operand.tmp 1), type := 55, pos := "checkpoint.go:138", after := #[], guard := none },
  { dst := some 53, op := Go.Op.build 203 #[(0, Go.Operand.tmp 51), (1, Go.Operand.tmp 52)], type := 203, pos := "checkpoint.go:138", after := #[{ on := 9, ground := Go.Ground.data }, { on := 10, ground := Go.Ground.data }], guard := none },
  { dst := some 54, op := Go.Op.move (Go.Operand.tmp 6), type := 3, pos := "checkpoint.go:138", after := #[], guard := none },
  { dst := some 55, op := Go.Op.move (Go.Operand.tmp 0), type := 52, pos := "checkpoint.go:138", after := #[], guard := none },
  { dst := some 56, op := Go.Op.move (Go.Operand.tmp 1), type := 55, pos := "checkpoint.go:138", after := #[], guard := none },
  { dst := some 57, op := Go.Op.move (Go.Operand.tmp 0), type := 52, pos := "checkpoint.go:138", after := #[], guard := none },
  { dst := some 58, op := Go.Op.nilCheck (Go.Operand.tmp 57), type := 0, pos := "checkpoint.go:138", after := #[{ on := 15, ground := Go.Ground.data }], guard := none },
  { dst := some 59, op := Go.Op.fieldAddr 100 (Go.Operand.tmp 58) 5, type := 0, pos := "checkpoint.go:138", after := #[{ on := 16, ground := Go.Ground.data }], guard := none },
  { dst := some 60, op := Go.Op.load 2 (Go.Operand.tmp 59), type := 2, pos := "checkpoint.go:138", after := #[{ on := 17, ground := Go.Ground.data }], guard := none },
  { dst := some 61, op := Go.Op.binOp Go.BinOp.add 2 (Go.Operand.tmp 60) (Go.Operand.const (Go.Value.int Go.IntKind.i64 1)) 2, type := 2, pos := "checkpoint.go:138", after := #[{ on := 18, ground := Go.Ground.data }], guard := none },
  { dst := some 62, op := Go.Op.call { callee := Go.Callee.value (Go.Operand.func 96), args := #[Go.Operand.tmp 55, Go.Operand.tmp 56, Go.Operand.tmp 61], argTypes := #[52, 55, 2] }, type := 55, pos := "checkpoint.go:141", after := #[{ on := 13, ground := Go.Ground.data }, { on := 14, ground := Go.Ground.data }, { on := 19, ground := Go.Ground.data }, { on := 5, ground := Go.Ground.chain }, { on := 6, ground := Go.Ground.data }], guard := none },
  { dst := some 63, op := Go.Op.build 203 #[(0, Go.Operand.tmp 54), (1, Go.Operand.tmp 62)], type := 203, pos := "checkpoint.go:138", after := #[{ on := 12, ground := Go.Ground.data }, { on := 20, ground := Go.Ground.data }], guard := none },
  { dst := some 64, op := Go.Op.buildSlice 204 3 #[(0, Go.Operand.tmp 49), (1, Go.Operand.tmp 53), (2, Go.Operand.tmp 63)], type := 204, pos := "checkpoint.go:138", after := #[{ on := 7, ground := Go.Ground.data }, { on := 11, ground := Go.Ground.data }, { on := 21, ground := Go.Ground.data }], guard := none },
  { dst := some 65, op := Go.Op.call { callee := Go.Callee.builtin Go.Builtin.len, args := #[Go.Operand.tmp 64], argTypes := #[204] }, type := 3, pos := "checkpoint.go:138", after := #[{ on := 22, ground := Go.Ground.data }], guard := none },
  { dst := some 66, op := Go.Op.move (Go.Operand.const (Go.Value.int Go.IntKind.i64 0)), type := 3, pos := "checkpoint.go:138", after := #[], guard := none }],
  [0,1,2,3,4,5,6,7,8,9,10,11,12,13,14,15,16,17,18,19,20,21,22,23,24],[5,6,20,22],[(20,[7,9,11])],[(9,[5,6]),(11,[5,6]),(16,[5,6]),(17,[5,6]),(18,[5,6]),(19,[5,6])]⟩
 ⟨#[{ dst := some 42, op := Go.Op.move (Go.Operand.tmp 6), type := 3, pos := "checkpoint.go:138", after := #[], guard := none },
  { dst := some 43, op := Go.Op.move (Go.Operand.tmp 0), type := 52, pos := "checkpoint.go:138", after := #[], guard := none },
  { dst := some 44, op := Go.Op.nilCheck (Go.Operand.tmp 43), type := 0, pos := "checkpoint.go:138", after := #[{ on := 1, ground := Go.Ground.data }], guard := none },
  { dst := some 45, op := Go.Op.fieldAddr 100 (Go.Operand.tmp 44) 0, type := 0, pos := "checkpoint.go:138", after := #[{ on := 2, ground := Go.Ground.data }], guard := none },
  { dst := some 46, op := Go.Op.load 24 (Go.Operand.tmp 45), type := 24, pos := "checkpoint.go:138", after := #[{ on := 3, ground := Go.Ground.data }], guard := none },
  { dst := some 47, op := Go.Op.call { callee := Go.Callee.value (Go.Operand.func 13), args := #[Go.Operand.tmp 46], argTypes := #[24] }, type := 3, pos := "checkpoint.go:141", after := #[{ on := 4, ground := Go.Ground.data }], guard := none },
  { dst := some 50, op := Go.Op.move (Go.Operand.tmp 6), type := 3, pos := "checkpoint.go:138", after := #[], guard := none },
  { dst := some 51, op := Go.Op.binOp Go.BinOp.add 3 (Go.Operand.tmp 50) (Go.Operand.const (Go.Value.int Go.IntKind.i64 1)) 3, type := 3, pos := "checkpoint.go:138", after := #[{ on := 6, ground := Go.Ground.data }], guard := none },
  { dst := some 52, op := Go.Op.move (Go.Operand.tmp 1), type := 55, pos := "checkpoint.go:138", after := #[], guard := none },
  { dst := some 53, op := Go.Op.build 203 #[(0, Go.Operand.tmp 51), (1, Go.Operand.tmp 52)], type := 203, pos := "checkpoint.go:138", after := #[{ on := 7, ground := Go.Ground.data }, { on := 8, ground := Go.Ground.data }], guard := none },
  { dst := some 54, op := Go.Op.move (Go.Operand.tmp 6), type := 3, pos := "checkpoint.go:138", after := #[], guard := none },
  { dst := some 55, op := Go.Op.move (Go.Operand.tmp 0), type := 52, pos := "checkpoint.go:138", after := #[], guard := none },
  { dst := some 56, op := Go.Op.move (Go.Operand.tmp 1), type := 55, pos := "checkpoint.go:138", after := #[], guard := none },
  { dst := some 57, op := Go.Op.move (Go.Operand.tmp 0), type := 52, pos := "checkpoint.go:138", after := #[], guard := none },
  { dst := some 58, op := Go.Op.nilCheck (Go.Operand.tmp 57), type := 0, pos := "checkpoint.go:138", after := #[{ on := 13, ground := Go.Ground.data }], guard := none },
  { dst := some 59, op := Go.Op.fieldAddr 100 (Go.Operand.tmp 58) 5, type := 0, pos := "checkpoint.go:138", after := #[{ on := 14, ground := Go.Ground.data }], guard := none },
  { dst := some 60, op := Go.Op.load 2 (Go.Operand.tmp 59), type := 2, pos := "checkpoint.go:138", after := #[{ on := 15, ground := Go.Ground.data }], guard := none },
  { dst := some 61, op := Go.Op.binOp Go.BinOp.add 2 (Go.Operand.tmp 60) (Go.Operand.const (Go.Value.int Go.IntKind.i64 1)) 2, type := 2, pos := "checkpoint.go:138", after := #[{ on := 16, ground := Go.Ground.data }], guard := none },
  { dst := some 62, op := Go.Op.call { callee := Go.Callee.value (Go.Operand.func 96), args := #[Go.Operand.tmp 55, Go.Operand.tmp 56, Go.Operand.tmp 61], argTypes := #[52, 55, 2] }, type := 55, pos := "checkpoint.go:141", after := #[{ on := 11, ground := Go.Ground.data }, { on := 12, ground := Go.Ground.data }, { on := 17, ground := Go.Ground.data }, { on := 5, ground := Go.Ground.chain }], guard := none },
  { dst := some 48, op := Go.Op.makeSlice 55 (Go.Operand.tmp 47) (Go.Operand.tmp 47), type := 55, pos := "checkpoint.go:138", after := #[{ on := 5, ground := Go.Ground.data }, { on := 5, ground := Go.Ground.data }, { on := 18, ground := Go.Ground.data }], guard := none },
  { dst := some 49, op := Go.Op.build 203 #[(0, Go.Operand.tmp 42), (1, Go.Operand.tmp 48)], type := 203, pos := "checkpoint.go:138", after := #[{ on := 0, ground := Go.Ground.data }, { on := 19, ground := Go.Ground.data }], guard := none },
  { dst := some 63, op := Go.Op.build 203 #[(0, Go.Operand.tmp 54), (1, Go.Operand.tmp 62)], type := 203, pos := "checkpoint.go:138", after := #[{ on := 10, ground := Go.Ground.data }, { on := 18, ground := Go.Ground.data }], guard := none },
  { dst := some 64, op := Go.Op.buildSlice 204 3 #[(0, Go.Operand.tmp 49), (1, Go.Operand.tmp 53), (2, Go.Operand.tmp 63)], type := 204, pos := "checkpoint.go:138", after := #[{ on := 20, ground := Go.Ground.data }, { on := 9, ground := Go.Ground.data }, { on := 21, ground := Go.Ground.data }], guard := none },
  { dst := some 65, op := Go.Op.call { callee := Go.Callee.builtin Go.Builtin.len, args := #[Go.Operand.tmp 64], argTypes := #[204] }, type := 3, pos := "checkpoint.go:138", after := #[{ on := 22, ground := Go.Ground.data }], guard := none },
  { dst := some 66, op := Go.Op.move (Go.Operand.const (Go.Value.int Go.IntKind.i64 0)), type := 3, pos := "checkpoint.go:138", after := #[], guard := none }],
  [0,1,2,3,4,5,8,9,10,11,12,13,14,15,16,17,18,19,20,6,7,21,22,23,24],[5,18,19,22],[(18,[7,9]),(19,[7,9])],[(7,[5]),(9,[5]),(14,[5]),(15,[5]),(16,[5]),(17,[5]),(21,[19])]⟩) (.blk (.lop [66] (.two (.reg [67]) (.two (.two .lf .lf) (.two (.blk (.two (.reg [8]) (.two (.reg [76]) (.two (.two (.reg []) (.two (.reg [4]) .lf)) .lf)))) (.reg [66]))))))) (.two (.reg []) (.two (.reg []) (.two (.reg [4]) .lf)))))))))
theorem R3:okFnS 124 Tryz.f124 (Tryz.f124.body.getD .skip) pl124 2=true:=by kernel_rfl
theorem R4:altEq (Tryz.f124.body.getD .skip) pl124:=⟨trivial,⟨trivial,⟨trivial,⟨⟨trivial,trivial⟩,⟨trivial,⟨⟨⟨by kernel_rfl,by kernel_rfl⟩,trivial⟩,⟨trivial,⟨trivial,⟨trivial,trivial⟩⟩⟩⟩⟩⟩⟩⟩⟩
abbrev rs124:List Nat:=[4]
abbrev pl125:Plan:=(.two (.reg []) (.two (.two (.reg [10]) (.two (.two (.reg [2]) .lf) .lf)) (.two (.reg []) (.two (.reg [2]) .lf))))
theorem R5:okFn Tryz.f125 (Tryz.f125.body.getD .skip) pl125 1=true:=by kernel_rfl
abbrev rs125:List Nat:=[2]
abbrev pl126:Plan:=(.two (.reg []) (.two (.two (.reg [9]) (.two (.two (.reg [4]) .lf) .lf)) (.two (.two (.reg [5]) (.blk (.lop [5] (.two (.two (.reg [13]) (.two .lf .lf)) (.two (.blk (.two (.reg [30]) (.two (.two (.reg [4]) .lf) .lf))) (.reg [5])))))) (.two (.reg [4]) .lf))))
theorem R6:okFn Tryz.f126 (Tryz.f126.body.getD .skip) pl126 2=true:=by kernel_rfl
abbrev rs126:List Nat:=[4]
abbrev pl127:Plan:=(.two (.reg []) (.two (.two (.reg [3]) (.two (.two (.reg [2]) .lf) .lf)) (.two (.reg [2]) .lf)))
theorem R7:okFn Tryz.f127 (Tryz.f127.body.getD .skip) pl127 1=true:=by kernel_rfl
abbrev rs127:List Nat:=[2]
abbrev pl129:Plan:=(.two (.reg []) (.two (.two (.reg [8]) (.two (.two (.reg [2]) .lf) .lf)) (.two (.reg [3,4,5]) (.two (.two (.reg [28]) (.two (.two (.reg []) (.two (.reg [2]) .lf)) .lf)) (.two (.reg []) (.two (.reg [2]) .lf))))))
theorem R8:okFn Tryz.f129 (Tryz.f129.body.getD .skip) pl129 1=true:=by kernel_rfl
abbrev rs129:List Nat:=[2]
abbrev pl130:Plan:=(.two (.reg [2]) (.two (.reg [4]) (.two (.two (.reg [13]) (.two (.two (.reg [3]) .lf) .lf)) (.two (.reg [5]) (.two (.reg [6]) (.two (.reg []) (.two (.two (.reg [7]) (.blk (.lop [7] (.two (.two (.reg [37]) (.two .lf .lf)) (.two (.blk (.two (.reg [8]) (.two (.reg []) (.reg [])))) (.reg [7])))))) (.two (.reg []) (.two (.reg []) (.two (.reg []) (.two (.reg []) (.two (.drw [3] [2,4] [(2,[0]),(4,[3])] []) .lf))))))))))))
theorem R9:okFn Tryz.f130 (Tryz.f130.body.getD .skip) pl130 1=true:=by kernel_rfl
abbrev pl131:Plan:=(.two (.reg []) (.two (.reg [3]) (.two (.reg [2]) .lf)))
theorem SA:okFn Tryz.f131 (Tryz.f131.body.getD .skip) pl131 1=true:=by kernel_rfl
abbrev rs131:List Nat:=[2]
abbrev pl132:Plan:=(.two (.reg []) (.two (.reg [3]) (.two (.two (.reg [4]) (.blk (.lop [3,4] (.two (.two (.reg [16]) (.two .lf .lf)) (.two (.blk (.two (.reg [5,6]) (.two (.two (.reg [26]) (.two (.reg []) .lf)) (.reg [3])))) (.reg [4])))))) (.two (.reg [2]) .lf))))
theorem SB:okFn Tryz.f132 (Tryz.f132.body.getD .skip) pl132 1=true:=by kernel_rfl
abbrev rs132:List Nat:=[2]
abbrev pl133:Plan:=(.two (.reg []) (.two (.two (.reg [7]) (.two (.two (.reg [2]) .lf) .lf)) (.two (.reg []) (.two (.reg [2]) .lf))))
theorem SC:okFn Tryz.f133 (Tryz.f133.body.getD .skip) pl133 1=true:=by kernel_rfl
abbrev rs133:List Nat:=[2]
abbrev pl134:Plan:=(.two (.reg [2]) (.two (.two (.reg [7]) (.blk (.lop [2,7] (.two (.reg [8]) (.two (.two .lf .lf) (.two (.blk (.two (.reg [5]) (.two (.two (.drw [21] [] [] []) (.two (.two (.reg [2,3,4]) .lf) .lf)) (.two (.drw [6] [] [] []) (.two (.two (.reg [39]) (.two (.two (.reg [2,3,4]) .lf) .lf)) (.two (.reg [2]) (.two (.reg [49]) (.two (.two (.drw [2,3,4] [] [] []) .lf) .lf)))))))) (.reg [7]))))))) (.two (.reg [2,3,4]) .lf)))
theorem SD:okFn Tryz.f134 (Tryz.f134.body.getD .skip) pl134 1=true:=by kernel_rfl
abbrev rs134:List Nat:=[2,3,4]
abbrev pl135:Plan:=(.two (.reg []) (.two (.reg [3]) (.two (.two (.reg [4]) (.blk (.lop [3,4] (.two (.two (.reg [8]) (.two .lf .lf)) (.two (.blk (.reg [3])) (.reg [4])))))) (.two (.reg [2]) .lf))))
theorem SE:okFn Tryz.f135 (Tryz.f135.body.getD .skip) pl135 1=true:=by kernel_rfl
abbrev rs135:List Nat:=[2]
abbrev pl136:Plan:=(.two (.reg [2,3]) (.two (.two (.drw [23] [2,6] [(6,[3])] [(4,[2]),(5,[2])]) (.two (.two (.reg [4]) .lf) .lf)) (.two (.two (.reg [5]) (.blk (.lop [5] (.two (.two (.reg [28]) (.two .lf .lf)) (.two (.blk (.two (.drw [60] [] [] []) (.two (.two (.reg [4]) .lf) .lf))) (.reg [5])))))) (.two (.reg [4]) .lf))))
theorem SF:okFn Tryz.f136 (Tryz.f136.body.getD .skip) pl136 2=true:=by kernel_rfl
abbrev rs136:List Nat:=[4]
abbrev pl137:Plan:=(.two (.reg [4]) (.two (.reg [5]) (.two (.two (.reg [8]) (.blk (.lop [8] (.two (.reg [9]) (.two (.two .lf .lf) (.two (.blk (.two (.reg [6]) (.reg []))) (.reg [8]))))))) (.two (.two (.reg [20]) (.blk (.lop [20] (.two (.reg [21]) (.two (.two .lf .lf) (.two (.blk (.two (.reg [7]) (.reg []))) (.reg [20]))))))) (.two (.drw [] [1,3,5,6,7] [(1,[0]),(3,[0]),(5,[0]),(6,[0])] [(2,[1])]) (.two (.reg []) .lf))))))
theorem SG:okFn Tryz.f137 (Tryz.f137.body.getD .skip) pl137 2=true:=by kernel_rfl
abbrev pl138:Plan:=(.two (.reg [3]) (.two (.drw [5] [3,6,9] [] [(4,[3]),(5,[3]),(7,[3,6]),(8,[3,6])]) (.two (.reg [5]) (.two (.two (.reg [6]) (.blk (.lop [5,6] (.two (.two (.reg [27]) (.two .lf .lf)) (.two (.blk (.drw [5] [7,14] [] [(8,[7]),(9,[7]),(11,[7]),(12,[7]),(13,[7])])) (.reg [6])))))) (.two (.reg [4]) .lf)))))
theorem SH:okFn Tryz.f138 (Tryz.f138.body.getD .skip) pl138 2=true:=by kernel_rfl
abbrev rs138:List Nat:=[4]
abbrev pl139:Plan:=(.two (.reg []) (.two (.reg [4]) .lf))
theorem SI:okFn Tryz.f139 (Tryz.f139.body.getD .skip) pl139 2=true:=by kernel_rfl
abbrev rs139:List Nat:=[4]
abbrev pl140:Plan:=(.two (.reg []) (.two (.reg [5]) (.two (.two (.reg [6]) (.blk (.lop [5,6] (.two (.two (.reg [15]) (.two .lf .lf)) (.two (.blk (.reg [5])) (.reg [6])))))) (.two (.reg [4]) .lf))))
theorem SJ:okFn Tryz.f140 (Tryz.f140.body.getD .skip) pl140 2=true:=by kernel_rfl
abbrev rs140:List Nat:=[4]
abbrev pl141:Plan:=(.two (.reg []) (.two (.reg []) (.two (.reg [2]) .lf)))
theorem SK:okFn Tryz.f141 (Tryz.f141.body.getD .skip) pl141 1=true:=by kernel_rfl
abbrev rs141:List Nat:=[2]
abbrev pl142:Plan:=(.two (.reg []) (.two (.reg [7]) (.two (.reg []) (.two (.two (.drw [29] [11] [] []) (.two (.reg []) .lf)) (.two (.reg [6]) .lf)))))
theorem SL:okFn Tryz.f142 (Tryz.f142.body.getD .skip) pl142 3=true:=by kernel_rfl
abbrev rs142:List Nat:=[6]
abbrev pl143:Plan:=(.two (.reg []) (.two (.two (.reg [8]) (.two (.reg []) .lf)) (.two (.reg [2]) .lf)))
theorem SM:okFn Tryz.f143 (Tryz.f143.body.getD .skip) pl143 1=true:=by kernel_rfl
abbrev rs143:List Nat:=[2]
abbrev pl144:Plan:=(.two (.reg []) (.two (.reg [5]) (.two (.reg []) (.two (.reg []) (.two (.reg [4]) .lf)))))
theorem SN:okFn Tryz.f144 (Tryz.f144.body.getD .skip) pl144 2=true:=by kernel_rfl
abbrev rs144:List Nat:=[4]
abbrev pl145:Plan:=(.two (.reg [1,2]) (.two (.reg []) (.two (.reg []) (.two (.two (.reg [14,15]) (.blk (.lop [15] (.two (.reg [16]) (.two (.two .lf .lf) (.two (.blk (.two (.reg [3]) (.drw [] [9,12] [(9,[0,1])] []))) (.reg [15]))))))) (.two (.reg []) .lf)))))
theorem SP:okFn Tryz.f145 (Tryz.f145.body.getD .skip) pl145 1=true:=by kernel_rfl
abbrev pl146:Plan:=(.two (.reg [4]) (.reg []))
theorem SQ:okFn Tryz.f146 (Tryz.f146.body.getD .skip) pl146 2=true:=by kernel_rfl
abbrev rs146:List Nat:=[]
abbrev pl147:Plan:=(.two (.reg []) (.two (.two (.reg [10]) (.two (.two (.reg [4]) .lf) .lf)) (.two (.two (.reg [5]) (.blk (.lop [5] (.two (.two (.reg [15]) (.two .lf .lf)) (.two (.blk (.two (.drw [28] [10] [] []) (.two (.two (.reg [6]) (.two (.two (.reg [7]) (.blk (.lop [5,7] (.two (.two (.reg [35]) (.two .lf .lf)) (.two (.blk (.two (.drw [49] [10] [] []) (.two (.two (.reg []) (.reg [5])) .lf))) (.reg [7])))))) (.two (.reg []) (.two (.reg [4]) .lf)))) .lf))) (.reg [5])))))) (.two (.reg [4]) .lf))))
theorem SS:okFn Tryz.f147 (Tryz.f147.body.getD .skip) pl147 2=true:=by kernel_rfl
abbrev rs147:List Nat:=[4]
abbrev pl148:Plan:=(.two (.reg [2,3]) (.two (.reg [4]) .lf))
theorem ST:okFn Tryz.f148 (Tryz.f148.body.getD .skip) pl148 2=true:=by kernel_rfl
abbrev rs148:List Nat:=[4]
abbrev pl149:Plan:=(.two (.reg []) (.two (.two (.reg [7,8]) (.blk (.lop [8] (.two (.reg [9]) (.two (.two .lf .lf) (.two (.blk (.two (.reg [5]) (.two (.reg [16]) (.two (.two (.reg [4]) .lf) .lf)))) (.reg [8]))))))) (.two (.reg [4]) .lf)))
theorem SU:okFn Tryz.f149 (Tryz.f149.body.getD .skip) pl149 2=true:=by kernel_rfl
abbrev rs149:List Nat:=[4]
abbrev pl150:Plan:=(.two (.reg []) (.two (.reg [3]) (.two (.two (.reg [6,7,8]) (.blk (.lop [8] (.two (.reg [9]) (.two (.two .lf .lf) (.two (.blk (.two (.reg [5]) (.two (.reg [14]) (.two (.two (.reg [2]) .lf) .lf)))) (.reg [8]))))))) (.two (.reg [2]) .lf))))
theorem SV:okFn Tryz.f150 (Tryz.f150.body.getD .skip) pl150 1=true:=by kernel_rfl
abbrev rs150:List Nat:=[2]
abbrev pl151:Plan:=(.two (.reg []) (.two (.reg [5]) (.two (.reg [6]) (.two (.two (.reg [11]) (.two (.two (.two (.reg [12]) (.two (.two (.reg [4]) .lf) .lf)) (.two (.reg [4]) .lf)) .lf)) (.two (.two (.reg [13]) (.two (.two (.reg [4]) .lf) .lf)) (.two (.two (.reg [16]) (.two (.two (.reg [4]) .lf) .lf)) (.two (.two (.reg [19]) (.two (.two (.reg [4]) .lf) .lf)) (.two (.reg [4]) .lf))))))))
theorem SW:okFn Tryz.f151 (Tryz.f151.body.getD .skip) pl151 2=true:=by kernel_rfl
abbrev rs151:List Nat:=[4]
abbrev pl153:Plan:=(.two (.reg []) (.two (.reg [3]) (.two (.two (.reg [9,10,11]) (.blk (.lop [3,11] (.two (.reg [12]) (.two (.two .lf .lf) (.two (.blk (.two (.reg [5]) (.two (.reg [3]) (.two (.reg [20]) (.two (.reg []) .lf))))) (.reg [11]))))))) (.two (.reg [6]) (.two (.two (.reg [25,26,27]) (.blk (.lop [6,27] (.two (.reg [28]) (.two (.two .lf .lf) (.two (.blk (.two (.reg [8]) (.reg [6]))) (.reg [27]))))))) (.two (.reg [2]) .lf))))))
theorem SX:okFn Tryz.f153 (Tryz.f153.body.getD .skip) pl153 1=true:=by kernel_rfl
abbrev rs153:List Nat:=[2]
abbrev pl154:Plan:=(.two (.reg [3]) (.two (.reg []) (.two (.reg []) (.two (.reg []) (.two (.reg []) (.two (.two (.reg [25,26,27]) (.blk (.lop [27] (.two (.reg [28]) (.two (.two .lf .lf) (.two (.blk (.two (.reg [5]) (.two (.reg []) (.reg [])))) (.reg [27]))))))) (.reg [])))))))
theorem SY:okFn Tryz.f154 (Tryz.f154.body.getD .skip) pl154 2=true:=by kernel_rfl
abbrev rs154:List Nat:=[]
abbrev pl155:Plan:=(.reg [])
theorem SZ:okFn Tryz.f155 (Tryz.f155.body.getD .skip) pl155 2=true:=by kernel_rfl
abbrev rs155:List Nat:=[]
abbrev pl156:Plan:=(.two (.reg []) (.two (.reg [9,10,11]) (.blk (.lop [11] (.two (.reg [12]) (.two (.two .lf .lf) (.two (.blk (.two (.reg [4]) (.reg []))) (.reg [11]))))))))
theorem S0:okFn Tryz.f156 (Tryz.f156.body.getD .skip) pl156 2=true:=by kernel_rfl
abbrev rs156:List Nat:=[]
abbrev pl157:Plan:=(.two (.reg []) (.reg []))
theorem S1:okFn Tryz.f157 (Tryz.f157.body.getD .skip) pl157 2=true:=by kernel_rfl
abbrev rs157:List Nat:=[]
abbrev pl158:Plan:=(.two (.reg []) (.two (.blk (.lop [1,2] (.two (.two (.reg [11]) (.two .lf .lf)) (.blk (.two (.reg [7]) (.two (.reg [2]) (.two (.two (.reg [8]) (.two (.reg [31]) (.two (.two (.reg [6]) .lf) .lf))) (.reg [1])))))))) (.two (.reg [6]) .lf)))
theorem S2:okFn Tryz.f158 (Tryz.f158.body.getD .skip) pl158 3=true:=by kernel_rfl
abbrev rs158:List Nat:=[6]
abbrev pl159:Plan:=(.two (.reg [1]) (.two (.two (.reg [23]) (.two (.two (.reg [2]) .lf) .lf)) (.two (.two (.reg [3]) (.blk (.lop [3] (.two (.two (.reg [28]) (.two .lf .lf)) (.two (.blk (.two (.reg [48]) (.two (.two (.reg [2]) .lf) .lf))) (.reg [3])))))) (.two (.reg [2]) .lf))))
theorem S3:okFn Tryz.f159 (Tryz.f159.body.getD .skip) pl159 1=true:=by kernel_rfl
abbrev rs159:List Nat:=[2]
abbrev pl160:Plan:=(.two (.reg []) (.two (.reg [1]) .lf))
theorem S4:okFn Tryz.f160 (Tryz.f160.body.getD .skip) pl160 1=true:=by kernel_rfl
abbrev rs160:List Nat:=[1]
abbrev pl161:Plan:=(.two (.reg [2]) (.two (.reg [4]) (.two (.reg [5]) (.two (.reg []) (.two (.reg []) (.two (.two (.reg [19,20]) (.blk (.lop [20] (.two (.reg [21]) (.two (.two .lf .lf) (.two (.blk (.two (.reg [6]) (.two (.reg []) (.reg [])))) (.reg [20]))))))) (.two (.reg []) (.two (.reg []) (.two (.two (.reg [43]) (.two (.two (.reg [3]) .lf) .lf)) (.two (.reg [3]) .lf))))))))))
theorem S5:okFn Tryz.f161 (Tryz.f161.body.getD .skip) pl161 1=true:=by kernel_rfl
abbrev pl162:Plan:=(.two (.reg []) (.two (.reg [3]) (.two (.reg []) (.two (.reg [2]) .lf))))
theorem S6:okFn Tryz.f162 (Tryz.f162.body.getD .skip) pl162 1=true:=by kernel_rfl
abbrev rs162:List Nat:=[2]
abbrev pl163:Plan:=(.two (.reg []) (.two (.two (.reg [19]) (.two (.two (.reg [6]) .lf) .lf)) (.two (.two (.reg [22]) (.two (.two (.reg [6]) .lf) .lf)) (.two (.drw [] [8,10,11,14] [(8,[2,3,4]),(10,[2,3,4])] []) (.two (.reg [6]) .lf)))))
theorem S7:okFn Tryz.f163 (Tryz.f163.body.getD .skip) pl163 3=true:=by kernel_rfl
abbrev rs163:List Nat:=[6]
abbrev pl164:Plan:=(.two (.reg []) (.two (.two (.reg [4]) (.two (.two (.reg [2]) .lf) .lf)) (.two (.reg [2]) .lf)))
theorem S8:okFn Tryz.f164 (Tryz.f164.body.getD .skip) pl164 1=true:=by kernel_rfl
abbrev rs164:List Nat:=[2]
abbrev pl165:Plan:=(.two (.reg []) (.two (.two (.reg [4]) (.two (.two (.reg [2]) .lf) .lf)) (.two (.reg [2]) .lf)))
theorem S9:okFn Tryz.f165 (Tryz.f165.body.getD .skip) pl165 1=true:=by kernel_rfl
abbrev rs165:List Nat:=[2]
abbrev pl168:Plan:=(.two (.reg []) (.two (.reg [2]) .lf))
theorem TA:okFn Tryz.f168 (Tryz.f168.body.getD .skip) pl168 1=true:=by kernel_rfl
abbrev rs168:List Nat:=[2]
abbrev pl170:Plan:=(.two (.reg []) (.two (.two (.reg [6]) (.two (.reg []) .lf)) (.two (.two (.reg [1]) (.two (.reg [16]) (.two (.reg [0]) .lf))) (.two (.reg [4]) .lf))))
theorem TB:okFn Tryz.f170 (Tryz.f170.body.getD .skip) pl170 2=true:=by kernel_rfl
abbrev rs170:List Nat:=[4]
abbrev pl171:Plan:=(.two (.reg []) (.two (.reg [0]) .lf))
theorem TC:okFn Tryz.f171 (Tryz.f171.body.getD .skip) pl171 0=true:=by kernel_rfl
abbrev rs171:List Nat:=[0]
abbrev pl172:Plan:=(.two (.reg []) (.two (.two (.reg [19]) (.two (.two (.reg [4]) (.two (.drw [] [8,11] [] []) (.two (.reg [1]) (.two (.two (.reg [48]) (.two .lf .lf)) (.two (.drw [] [9,12] [] []) (.reg [])))))) .lf)) (.two (.blk (.lop [1] (.two (.two (.reg [66]) (.two .lf .lf)) (.blk (.two (.drw [] [7,10] [] []) (.reg [1])))))) (.reg []))))
theorem TD:okFn Tryz.f172 (Tryz.f172.body.getD .skip) pl172 2=true:=by kernel_rfl
abbrev rs172:List Nat:=[]
abbrev pl173:Plan:=(.two (.reg []) (.two (.reg [3]) (.two (.blk (.lop [3] (.two (.two (.reg [21]) (.two .lf .lf)) (.blk (.reg [3]))))) (.two (.reg [4]) (.two (.two (.reg [5]) (.blk (.lop [3,5] (.two (.two (.reg [32]) (.two .lf .lf)) (.two (.blk (.reg [3])) (.reg [5])))))) (.two (.reg [6]) (.two (.blk (.lop [3] (.two (.two (.reg [48]) (.two .lf .lf)) (.two (.blk (.drw [] [3,4] [] [])) (.reg [3]))))) (.two (.reg [7]) (.two (.two (.reg [56,57]) (.blk (.lop [7,57] (.two (.reg [58]) (.two (.two .lf .lf) (.two (.blk (.two (.reg [9]) (.reg [7]))) (.reg [57]))))))) (.two (.reg [2]) .lf))))))))))
theorem TE:okFn Tryz.f173 (Tryz.f173.body.getD .skip) pl173 1=true:=by kernel_rfl
abbrev rs173:List Nat:=[2]
abbrev pl185:Plan:=(.two (.reg [0]) (.two (.reg []) .lf))
theorem TF:okFn Tryz.f185 (Tryz.f185.body.getD .skip) pl185 0=true:=by kernel_rfl
abbrev pl186:Plan:=(.two (.reg [2,4]) (.two (.reg [5]) (.two (.two (.reg [23]) (.blk (.lop [23] (.two (.reg [24]) (.two (.two .lf .lf) (.two (.blk (.two (.reg [6]) (.drw [] [35] [] []))) (.reg [23]))))))) (.two (.two (.reg [7]) (.blk (.lop [7] (.two (.two (.reg [63]) (.two .lf .lf)) (.two (.blk (.two (.drw [8,9] [] [] []) (.two (.reg [10]) (.two (.reg [11]) (.drw [] [15] [] []))))) (.reg [7])))))) (.two (.reg [12]) (.two (.two (.reg [106]) (.blk (.lop [106] (.two (.reg [107]) (.two (.two .lf .lf) (.two (.blk (.two (.reg [13]) (.two (.drw [14,15,16,17,18,19] [] [] []) (.two (.drw [20] [3,5,8] [(3,[0,1]),(5,[0,1]),(8,[0,1,6])] [(13,[3,5,8]),(15,[3,5,8]),(17,[3,5,8]),(18,[3,5,8]),(21,[3,5,8]),(22,[3,5,8]),(25,[3,5,8]),(26,[3,5,8])]) (.two (.reg [21]) (.reg [])))))) (.reg [106]))))))) (.two (.two (.reg [184]) (.blk (.lop [184] (.two (.reg [185]) (.two (.two .lf .lf) (.two (.blk (.two (.reg [22]) (.drw [] [8] [] []))) (.reg [184]))))))) (.two (.reg []) .lf))))))))
theorem TG:okFn Tryz.f186 (Tryz.f186.body.getD .skip) pl186 2=true:=by kernel_rfl
abbrev pl192:Plan:=(.two (.reg []) (.two (.reg [4]) .lf))
theorem TH:okFn Tryz.f192 (Tryz.f192.body.getD .skip) pl192 2=true:=by kernel_rfl
abbrev rs192:List Nat:=[4]
end Go.Proofs.YtpgigkceoolgeaaGreatDoor.Fd
